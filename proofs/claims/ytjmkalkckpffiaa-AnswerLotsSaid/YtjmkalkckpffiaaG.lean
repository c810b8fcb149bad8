/- The walk, part 2. Conditions: none beside each theorem's own. Written by gen.py out of the print of the loaded program. -/
import Derived.Test.YtjmkalkckpffiaaG1
import Derived.KernelRfl
set_option linter.unusedVariables false
set_option linter.unusedSimpArgs false
namespace Go.Proofs.Ytjmkalkckpffiaa
open Go Go.Proofs.Ytjmkalkckpffiaa.Sp

/-! ### slices.Chunk (functions 22, 34): what it makes; how its iterator goes through a slice -/
theorem chunk22.ok {z w : World} {F : Hp} {A : Option Addr} {m c : Nat} {k : Int} (hk : 1 ≤ k) (HF : Fits z w F) :
    Calls Try.prog 22 [.slice A m c, .int .i64 k].toArray w fun e w' => ∃ (g1 : Nat) (g2 : Nat), e = .returned (.func (.func 34) [].toArray [.pointer (some ⟨g1, 0, none⟩), .pointer (some ⟨g2, 0, none⟩)].toArray) ∧ Fits z w' (bk g1 23 [.slice A m c] :: bk g2 3 [.int .i64 k] :: F) := by
  refine enter0 Try.func22 rfl Try.ntmps22 rfl (E := [(0, .slice A m c), (1, .int .i64 k)]) rfl ?_
  refine cSeq (fun K1 hK1 => ?_)
  refine cRgn [] trivial ?_
  refine eBox HF rfl rfl (fun g1 w1 HF1 => ?_)
  refine eBox HF1 rfl rfl (fun g2 w2 HF2 => ?_)
  refine sL (asg rfl) rfl ?_
  refine lEnd (K := fun _ _ => True) ?_
  refine kN (?_)
  refine hK1 _ _ ?_
  refine cSeq (fun K2 hK2 => ?_)
  refine cSeq (fun K3 hK3 => ?_)
  refine cRgn [] trivial ?_
  refine sL (ld rfl Try.underlying3 rfl (HF2.box (mem_h) rfl)) rfl ?_
  refine sL (bLss rfl rfl) rfl ?_
  refine lEnd (K := fun _ _ => True) ?_
  refine kN (?_)
  refine hK3 _ _ ?_
  refine cSet (i := 6) rfl (dF (by omega)) ?_
  refine cF rfl ?_
  refine cSkip ?_
  refine kN (?_)
  refine hK2 _ _ ?_
  refine cSeq (fun K4 hK4 => ?_)
  refine cRgn [] trivial ?_
  refine sL (mfn rfl rfl) rfl ?_
  refine sL (asg rfl) rfl ?_
  refine lEnd (K := fun _ _ => True) ?_
  refine kN (?_)
  refine hK4 _ _ ?_
  refine cRet ?_
  refine ret1 rfl rfl ?_
  exact ⟨g1, g2, rfl, HF2.perm (List.Perm.swap _ _ _)⟩
set_option maxHeartbeats 1000000 in
theorem iter34 {α : Type} {A : Option Addr} {c k g1 g2 : Nat} (xs : List α) (hk : 0 < k) (hk2 : k ≤ 1000) (hc : xs.length ≤ c) (hb : xs.length ≤ 4611686018427387904) :
    IterC Try.prog 34 [.pointer (some ⟨g1, 0, none⟩), .pointer (some ⟨g2, 0, none⟩)] (fun w => w.cell? ⟨g1, 0, none⟩ = some (.slice A xs.length c) ∧ w.cell? ⟨g2, 0, none⟩ = some (.int .i64 (k : Int))) (chV A xs.length k 7) (chN xs.length k) := by
  intro lr J W hdr hok hyield h0
  refine callsIn_wide.2 ?_
  refine enter0 Try.func34 rfl Try.ntmps34 rfl (E := [(0, .func (.yield lr) #[] #[]), (1, .pointer (some ⟨g1, 0, none⟩)), (2, .pointer (some ⟨g2, 0, none⟩))]) rfl ?_
  refine cSeq (fun K1 hK1 => ?_)
  refine cRgn [] trivial ?_
  refine sL (asg rfl) rfl ?_
  refine lEnd (K := fun _ _ => True) ?_
  refine kN (?_)
  refine hK1 _ _ ?_
  have hle : chN xs.length k ≤ xs.length := chN_le (j := 0) hk
  refine cLoopB (S := Nat) (R := Unit) (y := .inl (chN xs.length k)) (s0 := 0) (cnt1 (chN xs.length k)) (fun j a w => Env 31 [(0, .func (.yield lr) #[] #[]), (1, .pointer (some ⟨g1, 0, none⟩)), (2, .pointer (some ⟨g2, 0, none⟩)), (4, .int .i64 ((j * k : Nat) : Int))] a ∧ j ≤ chN xs.length k ∧ J j w) (cnt_loop _ (chN xs.length k) 0 (by omega)) (fun a hE => ⟨hE.keep (Keep.cons rfl (Keep.cons rfl (Keep.cons rfl (Keep.cons (by simp only [Nat.zero_mul]; rfl) Keep.nil)))), Nat.zero_le _, h0⟩) ?_ ?_
  · rintro j a w1 t ⟨hE, hjc, hJ⟩ hb1 hx
    have hcell := hok _ _ hJ
    refine go_ hE ?_
    refine cSeq (fun K2 hK2 => ?_)
    refine cSeq (fun K3 hK3 => ?_)
    refine cRgn [] trivial ?_
    refine sL (mv rfl) rfl ?_
    refine sL (ld rfl Try.underlying23 rfl hcell.1) rfl ?_
    refine sL (lnS rfl Try.underlying23) rfl ?_
    refine sL (bLss rfl rfl) rfl ?_
    refine lEnd (K := fun _ _ => True) ?_
    refine kN (?_)
    refine hK3 _ _ ?_
    by_cases hj : j < chN xs.length k
    · have hjk : j * k < xs.length := (chN_lt hk).1 hj
      have ht : t = .inl (j + 1) := by
        unfold cnt1 at hb1
        rw [if_pos hj] at hb1
        exact (Option.some.inj hb1).symm
      refine cSet (i := 9) rfl (dT (by omega)) ?_
      refine cT rfl ?_
      refine cSkip ?_
      refine kN (?_)
      refine hK2 _ _ ?_
      refine cSeq (fun K4 hK4 => ?_)
      refine cBlock ?_
      refine cSeq (fun K5 hK5 => ?_)
      refine cDrawW mo_ rfl (fun w => w.cell? ⟨g1, 0, none⟩ = some (.slice A xs.length c) ∧ w.cell? ⟨g2, 0, none⟩ = some (.int .i64 (k : Int))) ?_
      have hJ2 := hdr _ _ hJ
      have hc2 := hok _ _ hJ2
      have pk : PanicOk (Exit.then K5 (Exit.inBlock 1 (Exit.then K4 (Exit.then (fun a w => ∃ s', t = .inl s' ∧ Env 31 [(0, .func (.yield lr) #[] #[]), (1, .pointer (some ⟨g1, 0, none⟩)), (2, .pointer (some ⟨g2, 0, none⟩)), (4, .int .i64 ((s' * k : Nat) : Int))] a ∧ s' ≤ chN xs.length k ∧ J s' w) (Exit.inBlock 0 (Exit.then (fun a w => ∃ s', t = .inr (.inl s') ∧ Env 31 [(0, .func (.yield lr) #[] #[]), (1, .pointer (some ⟨g1, 0, none⟩)), (2, .pointer (some ⟨g2, 0, none⟩)), (4, .int .i64 ((s' * k : Nat) : Int))] a ∧ s' ≤ chN xs.length k ∧ J s' w) (bodyPost Try.prog Try.f34 fun e W' => (∃ v, e = .returned v) ∧ J (chN xs.length k) W'))))))) := pThen (pBlock (pThen (pThen (pBlock (pThen pFn)))))
      refine hTake 0 rfl (by kernel_rfl) pk (fun w_ hS_ => ld rfl Try.underlying3 rfl hS_.2) hc2 rfl rfl ?_
      refine hTake 1 rfl (by kernel_rfl) pk (fun w_ hS_ => ld rfl Try.underlying23 rfl hS_.1) hc2 rfl rfl ?_
      refine hTake 2 rfl (by kernel_rfl) pk (fun w_ hS_ => mv rfl) hc2 rfl rfl ?_
      refine hTake 3 rfl (by kernel_rfl) pk (fun w_ hS_ => slcN (lo := ((j * k : Nat) : Int)) (hi := (xs.length : Int)) xs rfl Try.underlying23 ti27 rfl rfl hc (by omega) (by omega) (Int.le_refl _)) hc2 rfl rfl ?_
      refine hTake 4 rfl (by kernel_rfl) pk (fun w_ hS_ => lnS rfl Try.underlying23) hc2 rfl rfl ?_
      refine hTake 5 rfl (by kernel_rfl) pk (fun w_ hS_ => mn2 rfl rfl) hc2 rfl rfl ?_
      refine hTake 6 rfl (by kernel_rfl) pk (fun w_ hS_ => asg rfl) hc2 rfl rfl ?_
      refine hEnd (by kernel_rfl) ?_
      refine kN (?_)
      refine hK5 _ _ ?_
      have hlen : ((cutL xs ((j * k : Nat) : Int) (xs.length : Int)).length : Int) = (xs.length : Int) - ((j * k : Nat) : Int) := by
        rw [len_cutL (by omega) (by omega) (Int.le_refl _)]; omega
      have hmin : (if ((cutL xs ((j * k : Nat) : Int) (xs.length : Int)).length : Int) < (k : Int) then ((cutL xs ((j * k : Nat) : Int) (xs.length : Int)).length : Int) else (k : Int)) = ((min (j * k + k) xs.length : Nat) : Int) - ((j * k : Nat) : Int) := by
        rw [hlen]
        split <;> omega
      refine cSet (i := 5) (v := .int .i64 (((min (j * k + k) xs.length : Nat) : Int) - ((j * k : Nat) : Int))) rfl (by rw [hmin]) ?_
      refine cSeq (fun K6 hK6 => ?_)
      refine cRgnY ?_
      refine yL (mv rfl) rfl ?_
      refine yL (ld rfl Try.underlying23 rfl hc2.1) rfl ?_
      refine yL (mv rfl) rfl ?_
      refine yL (mv rfl) rfl ?_
      refine yL (mv rfl) rfl ?_
      have hadd : IntKind.i64.wrap (((j * k : Nat) : Int) + (((min (j * k + k) xs.length : Nat) : Int) - ((j * k : Nat) : Int))) = ((min (j * k + k) xs.length : Nat) : Int) := by
        rw [IntKind.wrap_i64]; omega
      refine yL (bAdd rfl rfl) rfl ?_
      refine ySet (i := 24) (v := .int .i64 ((min (j * k + k) xs.length : Nat) : Int)) rfl (by rw [hadd]) ?_
      refine yL (mv rfl) rfl ?_
      refine yL (mv rfl) rfl ?_
      refine yL (bAdd rfl rfl) rfl ?_
      refine ySet (i := 27) (v := .int .i64 ((min (j * k + k) xs.length : Nat) : Int)) rfl (by rw [hadd]) ?_
      refine yL (slcM (lo := ((j * k : Nat) : Int)) (hi := ((min (j * k + k) xs.length : Nat) : Int)) xs rfl Try.underlying23 ti27 rfl rfl hc (by omega) (by omega) (by omega) rfl) rfl ?_
      have hv : (.slice (cutA A (((min (j * k + k) xs.length : Nat) : Int).toNat - ((j * k : Nat) : Int).toNat) (((j * k : Nat) : Int).toNat * 7)) (cutL xs ((j * k : Nat) : Int) ((min (j * k + k) xs.length : Nat) : Int)).length (((min (j * k + k) xs.length : Nat) : Int).toNat - ((j * k : Nat) : Int).toNat) : Value) = chV A xs.length k 7 j := by
        rw [len_cutL (by omega) (by omega) (by omega)]
        simp only [Int.toNat_natCast]
        rfl
      refine yYield rfl rfl (by rw [hv]; exact hyield j _ hJ2 hj) rfl ?_
      rintro e w2 ⟨rfl, hJ3⟩
      refine ⟨_, rfl, ?_⟩
      have hc3 := hok _ _ hJ3
      refine yL (uNot rfl) rfl ?_
      refine yEnd ?_
      refine kN (?_)
      refine hK6 _ _ ?_
      refine cF rfl ?_
      refine cSkip ?_
      refine jN (kN (?_))
      refine hK4 _ _ ?_
      refine cRgn [] trivial ?_
      refine sL (mv rfl) rfl ?_
      refine sL (ld rfl Try.underlying3 rfl hc3.2) rfl ?_
      refine sL (bAdd rfl rfl) rfl ?_
      refine sL (asg rfl) rfl ?_
      refine lEnd (K := fun _ _ => True) ?_
      refine kN (?_)
      refine ofEnv (fun a hE => ⟨j + 1, ht, hE.keep (Keep.cons rfl (Keep.cons rfl (Keep.cons rfl (Keep.cons ?_ Keep.nil)))), by omega, hJ3⟩)
      have e4 : IntKind.i64.wrap (((j * k : Nat) : Int) + (k : Int)) = (((j + 1) * k : Nat) : Int) := by
        rw [Nat.succ_mul, IntKind.wrap_i64]; omega
      rw [← e4]; rfl
    · have hjk : ¬ j * k < xs.length := fun h => hj ((chN_lt hk).2 h)
      have ht : t = .inr (.inl j) := by
        unfold cnt1 at hb1
        rw [if_neg hj] at hb1
        exact (Option.some.inj hb1).symm
      refine cSet (i := 9) rfl (dF (by omega)) ?_
      refine cF rfl ?_
      refine cExit ?_
      refine kX (kX (jX (kN (?_))))
      exact ofEnv (fun a hE => ⟨j, ht, hE.keep (Keep.cons rfl (Keep.cons rfl (Keep.cons rfl (Keep.cons rfl Keep.nil)))), hjc, hJ⟩)
  · rintro s a w1 hs ⟨hE, _, hJ⟩
    obtain rfl : chN xs.length k = s := by simpa using hs
    refine go_k hE ?_
    refine end0 rfl ?_
    exact ⟨⟨_, rfl⟩, hJ⟩

/-! ### slices.Clone[[]plenum/api.Head,plenum/api.Head] (function 23) -/
abbrev f_slices_Clone_api_Head_api_Head.R := List T_api_Head
noncomputable def f_slices_Clone_api_Head_api_Head (a0 : List T_api_Head) : Option f_slices_Clone_api_Head_api_Head.R := (if (0 + a0.length) * 56 ≤ 140737488355328 then some a0 else none)
set_option maxHeartbeats 1000000 in
theorem f_slices_Clone_api_Head_api_Head.ok {z w : World} {F G : Hp} (hG : G ⊆ F) {a0 : List T_api_Head} {A_a0 : Option Addr} {c_a0 : Nat} {X_a0 : Hp} {r : f_slices_Clone_api_Head_api_Head.R} (H : f_slices_Clone_api_Head_api_Head a0 = some r) (HF : Fits z w F) (hX_a0 : X_a0 ⊆ F) (hr_a0 : RdS k_T_api_Head X_a0 A_a0 c_a0 a0) :
    Calls Try.prog 23 [.slice A_a0 a0.length c_a0].toArray w fun e w' => ∃ (A0 : Option Addr) (c0 : Nat) (L0 : Hp), e = .returned (.slice A0 r.length c0) ∧ Fits z w' (L0 ++ F) ∧ OwnS k_T_api_Head L0 A0 c0 r := by
  unfold f_slices_Clone_api_Head_api_Head at H
  refine enter0 Try.func23 rfl Try.ntmps23 rfl (E := [(0, .slice A_a0 a0.length c_a0)]) rfl ?_
  refine cSeq (fun K1 hK1 => ?_)
  refine cRgn [] trivial ?_
  refine sL (asg rfl) rfl ?_
  refine lEnd (K := fun _ _ => True) ?_
  refine kN (?_)
  refine hK1 _ _ ?_
  refine cSeq (fun K2 hK2 => ?_)
  refine cSeq (fun K3 hK3 => ?_)
  refine cRgn [] trivial ?_
  refine sL (mv rfl) rfl ?_
  refine sL (bSlEql rfl rfl Try.underlying23) rfl ?_
  refine lEnd (K := fun _ _ => True) ?_
  refine kN (?_)
  refine hK3 _ _ ?_
  rcases hr_a0.nilq with ⟨rfl, e1⟩ | ⟨h1, h2⟩
  · subst e1
    replace H : (some [] : Option f_slices_Clone_api_Head_api_Head.R) = some r := by simpa using H
    refine cSet (i := 4) (v := .bool true) rfl rfl ?_
    refine cT rfl ?_
    refine cSeq (fun K4 hK4 => ?_)
    refine cRgn [] trivial ?_
    refine sL (asg rfl) rfl ?_
    refine lEnd (K := fun _ _ => True) ?_
    refine kN (?_)
    refine hK4 _ _ ?_
    refine cRet ?_
    obtain rfl := Option.some.inj H
    refine kR (?_)
    refine ret1 rfl rfl ?_
    exact ⟨none, 0, [], rfl, HF, OwnS.nil⟩
  · refine cSet (i := 4) rfl (nilF h1) ?_
    refine cF rfl ?_
    refine cSkip ?_
    refine kN (?_)
    refine hK2 _ _ ?_
    refine cSeq (fun K5 hK5 => ?_)
    refine cRgn [] trivial ?_
    refine eW (oLit (r := []) k_T_api_Head ([] : List T_api_Head) HF Try.underlying23 ti27 rfl rfl rfl rfl ⟨rfl, rfl⟩ rfl rfl) rfl ?_
    rintro _ w1 ⟨L1, A1, c1, rfl, HF1, ho1⟩
    refine sL (mv rfl) rfl ?_
    replace H := chk H; obtain ⟨c2, H⟩ := H
    refine eW (oApp (xs := ([] : List T_api_Head)) (ys := a0) k_T_api_Head HF1 rfl rfl Try.underlying23 Try.underlying23 ti27 rfl ho1 (srcR shrF hr_a0 HF1 (sub_a hX_a0)) c2 rfl) rfl ?_
    rintro _ w2 ⟨L2, A2, c3, rfl, HF2, ho2⟩
    refine sL (asg rfl) rfl ?_
    refine lEnd (K := fun _ _ => True) ?_
    refine kN (?_)
    refine hK5 _ _ ?_
    refine cRet ?_
    obtain rfl := Option.some.inj H
    refine ret1 rfl rfl ?_
    exact ⟨_, _, L2, rfl, HF2, ho2⟩
/-! ### plenum/answer.Acks (function 8) -/
abbrev f_answer_Acks.R := List T_api_Packet
noncomputable def f_answer_Acks.b0 (a0 : Int) (xc1 : List T_api_Head) (s1 : (List T_api_Packet)) : Option ((List T_api_Packet)) := ((f_slices_Clone_api_Head_api_Head xc1).bind fun t6 => (if (s1.length + 1) * 160 ≤ 140737488355328 then some (s1 ++ [(⟨5, a0, 0, 0, 0, 0, [], 0, 0, t6, [], []⟩ : T_api_Packet)]) else none))
noncomputable def f_answer_Acks (a0 : Int) (a1 : List T_api_Head) : Option f_answer_Acks.R := (if a1.length ≤ 4611686018427387904 then ((foldO (f_answer_Acks.b0 a0) (chL 8 a1) []).bind fun s1 => some s1) else none)
set_option maxHeartbeats 1000000 in
theorem f_answer_Acks.ok {z w : World} {F G : Hp} (hG : G ⊆ F) {a0 : Int} {a1 : List T_api_Head} {A_a1 : Option Addr} {c_a1 : Nat} {X_a1 : Hp} {r : f_answer_Acks.R} (H : f_answer_Acks a0 a1 = some r) (HF : Fits z w F) (hX_a1 : X_a1 ⊆ F) (hr_a1 : RdS k_T_api_Head X_a1 A_a1 c_a1 a1) :
    Calls Try.prog 8 [.int .i64 a0, .slice A_a1 a1.length c_a1].toArray w fun e w' => ∃ (N : Hp) (A0 : Option Addr) (c0 : Nat) (L0 : Hp), e = .returned (.slice A0 r.length c0) ∧ Fits z w' (L0 ++ (N ++ F)) ∧ OwnS (kShr (N ++ G) k_T_api_Packet) L0 A0 c0 r := by
  unfold f_answer_Acks at H
  refine enterM Try.func8 rfl Try.ntmps8 rfl (E := [(0, .int .i64 a0), (1, .slice A_a1 a1.length c_a1)]) rfl ?_
  refine cSeq (fun K1 hK1 => ?_)
  refine cRgn [] trivial ?_
  refine eW (oBox HF rfl) rfl ?_
  rintro _ w1 ⟨g1, rfl, HF1⟩
  refine sL (asg rfl) rfl ?_
  refine lEnd (K := fun _ _ => True) ?_
  refine kN (?_)
  refine hK1 _ _ ?_
  refine cSeq (fun K2 hK2 => ?_)
  refine cRgn [] trivial ?_
  refine eW (oAlloc HF1 ti33) rfl ?_
  rintro _ w2 ⟨g2, rfl, HF2⟩
  refine lEnd (K := fun _ _ => True) ?_
  refine kN (?_)
  refine hK2 _ _ ?_
  refine cSeqA (fun K3 hK3 => ?_)
  refine cRgn [] trivial ?_
  refine sL (mv rfl) rfl ?_
  refine eCall isf22 rfl rfl rfl (chunk22.ok (by decide) HF2) ?_
  rintro _ w3 ⟨g3, g4, rfl, HF3⟩
  refine ⟨_, rfl, ?_⟩
  refine lEnd (K := fun _ _ => True) ?_
  refine kN (?_)
  refine hK3 _ _ ?_
  replace H := chk H; obtain ⟨c1, H⟩ := H
  replace H := bnd H; obtain ⟨s1, J8, Ho1⟩ := H
  refine cRangeS (fun (M_ : Hp) (s1 : (List T_api_Packet)) (w : World) => ∃ (D2 : Hp) (A15 : Option Addr) (c18 : Nat) (L14 : Hp), Fits z w (M_ ++ (L14 ++ (bk g3 23 [.slice A_a1 a1.length c_a1] :: (bk g4 3 [.int .i64 8] :: (bk g2 33 [.slice A15 s1.length c18] :: (bk g1 3 [.int .i64 a0] :: (D2 ++ F))))))) ∧ OwnS (kShr (D2 ++ G) k_T_api_Packet) L14 A15 c18 s1) J8 HF3 rfl isf34 rfl rfl (iter34 a1 (by decide) (by decide) hr_a1.1 c1) hr_a1 (by decide) rfl (fun M_ w_ HF114 => ⟨[], none, 0, [], HF114, OwnS.nil⟩) ?_ ?_ ?_ ?_ ?_
  · rintro M_ M2_ s1 w_ w2_ ⟨D2, A15, c18, L14, HF117, ho14⟩ hM_
    exact ⟨D2, A15, c18, L14, (hM_ _ HF117), ho14⟩
  · rintro M_ s1 w_ ⟨D2, A15, c18, L14, HF117, ho14⟩
    exact ⟨_, HF117⟩
  · rintro M_ s1 w_ ⟨D2, A15, c18, L14, HF117, ho14⟩
    exact ⟨HF117.box (mem_a (mem_a mem_h)) rfl, HF117.box (mem_a (mem_a (mem_c mem_h))) rfl⟩
  · rintro lr_ M_ s1 s2_ w31 xc1 A1 c2 hr1 ⟨D2, A15, c18, L14, HF74, ho14⟩ H
    have hs6 : G ⊆ D2 ++ G := sub_a sub_r
    refine rBlock ?_
    refine rDraw mo_ HF74 rfl rfl (fun w => Fits z w (M_ ++ (bk g3 23 [.slice A_a1 a1.length c_a1] :: (bk g4 3 [.int .i64 8] :: (bk g1 3 [.int .i64 a0] :: (D2 ++ F)))))) (fun w26 HF87 => ?_)
    have HF88 := HF87.sublist (sl_a (sl_da (sl_c (sl_c (sl_dc (sl_c (List.Sublist.refl _)))))))
    refine hTake 1 rfl (by kernel_rfl) (pBlock (pThen pNo)) (fun w_ hS_ => ld rfl Try.underlying3 rfl (hS_.box (mem_a (mem_c (mem_c mem_h))) rfl)) HF88 rfl rfl ?_
    refine hTake 2 rfl (by kernel_rfl) (pBlock (pThen pNo)) (fun w_ hS_ => mv rfl) HF88 rfl rfl ?_
    refine h2 0 3 (by kernel_rfl) rfl rfl ?_ ?_
    · refine qL rfl gd0 (ld rfl Try.underlying33 rfl (HF87.box (mem_a (mem_a (mem_c (mem_c mem_h)))) rfl)) rfl HF88 ?_
      refine h1 3 (by kernel_rfl) rfl ?_
      replace H := bnd H; obtain ⟨t6, J7, H⟩ := H
      refine qCall rfl gd0 isf23 rfl rfl rfl (f_slices_Clone_api_Head_api_Head.ok (a0 := xc1) (sub_a (sub_a (sub_c (sub_c (sub_c (sub_c (sub_n hG))))))) J7 HF87 (sub_a (sub_a (sub_c (sub_c (sub_c (sub_c (sub_a hX_a1))))))) hr1) ?_
      rintro _ w27 ⟨A19, c23, L18, rfl, HF89, ho18⟩
      have HF90 := HF89.sublist (sl_da (sl_a (sl_da (sl_c (sl_c (sl_dc (sl_c (List.Sublist.refl _))))))))
      refine ⟨_, rfl, HF90, ?_⟩
      refine hTake 4 rfl (by kernel_rfl) (pBlock (pThen pNo)) (fun w_ hS_ => bd (r := [.int .i64 5, .int .i64 a0, .int .i64 0, .int .i64 0, .int .i64 0, .int .i64 0, .slice none 0 0, .int .i64 0, .int .i64 0, .slice A19 t6.length c23, .slice none 0 0, .slice none 0 0]) pl38 ti38 rfl rfl) HF90 rfl rfl ?_
      refine h1 5 (by kernel_rfl) rfl ?_
      have HF91 := HF89.perm (perm_f (perm_f (perm_c (perm_c (perm_c (perm_c (List.Perm.refl _))))))).symm
      obtain ⟨N4, hN4⟩ : ∃ N_, N_ = L18 ++ D2 := ⟨_, rfl⟩
      have HF92 := HF91; rw [← List.append_assoc L18 D2 F, ← hN4] at HF92
      have hs8 : D2 ++ G ⊆ N4 ++ G := frz_s hN4
      have hz6 : RdS k_T_api_Head (N4 ++ G) A19 c23 t6 := RdS.mono ho18.rd (frz_l hN4)
      refine qW rfl gd0 (oLit (r := [.int .i64 5, .int .i64 a0, .int .i64 0, .int .i64 0, .int .i64 0, .int .i64 0, .slice none 0 0, .int .i64 0, .int .i64 0, .slice A19 t6.length c23, .slice none 0 0, .slice none 0 0]) (kShr (N4 ++ G) k_T_api_Packet) [(⟨5, a0, 0, 0, 0, 0, [], 0, 0, t6, [], []⟩ : T_api_Packet)] HF92 Try.underlying33 ti38 rfl rfl rfl rfl ⟨[], [], [.int .i64 5, .int .i64 a0, .int .i64 0, .int .i64 0, .int .i64 0, .int .i64 0, .slice none 0 0, .int .i64 0, .int .i64 0, .slice A19 t6.length c23, .slice none 0 0, .slice none 0 0], _, rfl, rfl, ⟨rfl, mk_T_api_Packet (x := (⟨5, a0, 0, 0, 0, 0, [], 0, 0, t6, [], []⟩ : T_api_Packet)) (RdS.nil) (hz6) (RdS.nil) (RdS.nil)⟩, ⟨rfl, rfl⟩⟩ rfl rfl) rfl ?_
      rintro _ w28 ⟨L19, A20, c24, rfl, HF93, ho19⟩
      have HF94 := HF93.sublist (sl_da (sl_a (sl_da (sl_c (sl_c (sl_dc (sl_c (List.Sublist.refl _))))))))
      have HF95 := Fits.conv (L' := (M_ ++ (bk g3 23 [.slice A_a1 a1.length c_a1] :: (bk g4 3 [.int .i64 8] :: (bk g1 3 [.int .i64 a0] :: ((L18 ++ D2) ++ F)))))) HF94 (by rw [hN4] <;> rfl)
      have HF96 := HF95.sublist (sl_a (sl_c (sl_c (sl_c (List.Sublist.append_right (sl_da (List.Sublist.refl _)) _)))))
      refine ⟨HF96, ?_⟩
      refine h1 6 (by kernel_rfl) rfl ?_
      replace H := chk H; obtain ⟨c25, H⟩ := H
      have HF97 := HF93.perm (perm_f (perm_f (List.Perm.refl _)))
      refine qW rfl gd0 (oApp (xs := s1) (ys := ([(⟨5, a0, 0, 0, 0, 0, [], 0, 0, t6, [], []⟩ : T_api_Packet)])) (kShr (N4 ++ G) k_T_api_Packet) HF97 rfl rfl Try.underlying33 Try.underlying33 ti38 rfl (OwnS.lift ho14 hs8) (srcR shrS ho19.rd HF97 (sub_a sub_h)) c25 rfl) rfl ?_
      rintro _ w29 ⟨L20, A21, c26, rfl, HF98, ho20⟩
      have HF99 := HF98.sublist (sl_da (sl_da (sl_a (sl_c (sl_c (sl_dc (sl_c (List.Sublist.refl _))))))))
      have HF100 := Fits.conv (L' := (M_ ++ (bk g3 23 [.slice A_a1 a1.length c_a1] :: (bk g4 3 [.int .i64 8] :: (bk g1 3 [.int .i64 a0] :: ((L18 ++ D2) ++ F)))))) HF99 (by rw [hN4] <;> rfl)
      have HF101 := HF100.sublist (sl_a (sl_c (sl_c (sl_c (List.Sublist.append_right (sl_da (List.Sublist.refl _)) _)))))
      refine ⟨HF101, ?_⟩
      refine h1 7 (by kernel_rfl) rfl ?_
      have HF102 := HF98.perm (perm_f1 (perm_f1 (perm_f1 (perm_c1 (perm_c1 (List.Perm.refl _))))))
      refine qS rfl gd0 (oSt1 (l1 := [.slice A21 (s1 ++ [(⟨5, a0, 0, 0, 0, 0, [], 0, 0, t6, [], []⟩ : T_api_Packet)]).length c26]) HF102 rfl rfl ti33 rfl rfl rfl) ?_
      rintro w30 HF103
      have HF104 := HF103.sublist (sl_dc (sl_da (sl_da (sl_a (sl_c (sl_c (sl_c (List.Sublist.refl _))))))))
      have HF105 := Fits.conv (L' := (M_ ++ (bk g3 23 [.slice A_a1 a1.length c_a1] :: (bk g4 3 [.int .i64 8] :: (bk g1 3 [.int .i64 a0] :: ((L18 ++ D2) ++ F)))))) HF104 (by rw [hN4] <;> rfl)
      have HF106 := HF105.sublist (sl_a (sl_c (sl_c (sl_c (List.Sublist.append_right (sl_da (List.Sublist.refl _)) _)))))
      refine ⟨HF106, ?_⟩
      refine hEnd (by kernel_rfl) ?_
      refine jN (kN (?_))
      have HF107 := HF103.sublist (sl_c (sl_a (sl_da (sl_a (sl_c (sl_c (sl_c (List.Sublist.refl _))))))))
      have HF108 := HF107.perm (perm_c1 (perm_f1 (perm_f1 (perm_c1 (perm_c1 (List.Perm.refl _))))))
      have HF109 := HF108.perm (perm_c1 (List.Perm.refl _))
      have HF110 := HF109.perm (perm_c1 (perm_c1 (perm_f1 (perm_f1 (perm_c1 (List.Perm.refl _))))))
      have HF111 := HF110.perm (perm_c1 (perm_c1 (perm_c1 (perm_f1 (perm_f1 (List.Perm.refl _))))))
      have HF112 := HF111.perm (perm_c (perm_c (perm_c (perm_c (List.Perm.refl _)))))
      have HF113 := HF112.perm (perm_f (perm_c (perm_c (perm_c (perm_c (List.Perm.refl _))))))
      obtain rfl := Option.some.inj H
      exact ofEnv (fun a hE => ⟨N4, _, _, L20, HF113, ho20⟩)
    · replace H := bnd H; obtain ⟨t6, J7, H⟩ := H
      refine qCall rfl gd0 isf23 rfl rfl rfl (f_slices_Clone_api_Head_api_Head.ok (a0 := xc1) (sub_a (sub_a (sub_c (sub_c (sub_c (sub_c (sub_n hG))))))) J7 HF87 (sub_a (sub_a (sub_c (sub_c (sub_c (sub_c (sub_a hX_a1))))))) hr1) ?_
      rintro _ w27 ⟨A19, c23, L18, rfl, HF89, ho18⟩
      have HF90 := HF89.sublist (sl_da (sl_a (sl_da (sl_c (sl_c (sl_dc (sl_c (List.Sublist.refl _))))))))
      refine ⟨_, rfl, HF90, ?_⟩
      refine hTake 4 rfl (by kernel_rfl) (pBlock (pThen pNo)) (fun w_ hS_ => bd (r := [.int .i64 5, .int .i64 a0, .int .i64 0, .int .i64 0, .int .i64 0, .int .i64 0, .slice none 0 0, .int .i64 0, .int .i64 0, .slice A19 t6.length c23, .slice none 0 0, .slice none 0 0]) pl38 ti38 rfl rfl) HF90 rfl rfl ?_
      refine h2 0 5 (by kernel_rfl) rfl rfl ?_ ?_
      · refine qL rfl gd0 (ld rfl Try.underlying33 rfl (HF89.box (mem_a (mem_a (mem_a (mem_c (mem_c mem_h))))) rfl)) rfl HF90 ?_
        refine h1 5 (by kernel_rfl) rfl ?_
        have HF91 := HF89.perm (perm_f (perm_f (perm_c (perm_c (perm_c (perm_c (List.Perm.refl _))))))).symm
        obtain ⟨N4, hN4⟩ : ∃ N_, N_ = L18 ++ D2 := ⟨_, rfl⟩
        have HF92 := HF91; rw [← List.append_assoc L18 D2 F, ← hN4] at HF92
        have hs8 : D2 ++ G ⊆ N4 ++ G := frz_s hN4
        have hz6 : RdS k_T_api_Head (N4 ++ G) A19 c23 t6 := RdS.mono ho18.rd (frz_l hN4)
        refine qW rfl gd0 (oLit (r := [.int .i64 5, .int .i64 a0, .int .i64 0, .int .i64 0, .int .i64 0, .int .i64 0, .slice none 0 0, .int .i64 0, .int .i64 0, .slice A19 t6.length c23, .slice none 0 0, .slice none 0 0]) (kShr (N4 ++ G) k_T_api_Packet) [(⟨5, a0, 0, 0, 0, 0, [], 0, 0, t6, [], []⟩ : T_api_Packet)] HF92 Try.underlying33 ti38 rfl rfl rfl rfl ⟨[], [], [.int .i64 5, .int .i64 a0, .int .i64 0, .int .i64 0, .int .i64 0, .int .i64 0, .slice none 0 0, .int .i64 0, .int .i64 0, .slice A19 t6.length c23, .slice none 0 0, .slice none 0 0], _, rfl, rfl, ⟨rfl, mk_T_api_Packet (x := (⟨5, a0, 0, 0, 0, 0, [], 0, 0, t6, [], []⟩ : T_api_Packet)) (RdS.nil) (hz6) (RdS.nil) (RdS.nil)⟩, ⟨rfl, rfl⟩⟩ rfl rfl) rfl ?_
        rintro _ w28 ⟨L19, A20, c24, rfl, HF93, ho19⟩
        have HF94 := HF93.sublist (sl_da (sl_a (sl_da (sl_c (sl_c (sl_dc (sl_c (List.Sublist.refl _))))))))
        have HF95 := Fits.conv (L' := (M_ ++ (bk g3 23 [.slice A_a1 a1.length c_a1] :: (bk g4 3 [.int .i64 8] :: (bk g1 3 [.int .i64 a0] :: ((L18 ++ D2) ++ F)))))) HF94 (by rw [hN4] <;> rfl)
        have HF96 := HF95.sublist (sl_a (sl_c (sl_c (sl_c (List.Sublist.append_right (sl_da (List.Sublist.refl _)) _)))))
        refine ⟨HF96, ?_⟩
        refine h1 6 (by kernel_rfl) rfl ?_
        replace H := chk H; obtain ⟨c25, H⟩ := H
        have HF97 := HF93.perm (perm_f (perm_f (List.Perm.refl _)))
        refine qW rfl gd0 (oApp (xs := s1) (ys := ([(⟨5, a0, 0, 0, 0, 0, [], 0, 0, t6, [], []⟩ : T_api_Packet)])) (kShr (N4 ++ G) k_T_api_Packet) HF97 rfl rfl Try.underlying33 Try.underlying33 ti38 rfl (OwnS.lift ho14 hs8) (srcR shrS ho19.rd HF97 (sub_a sub_h)) c25 rfl) rfl ?_
        rintro _ w29 ⟨L20, A21, c26, rfl, HF98, ho20⟩
        have HF99 := HF98.sublist (sl_da (sl_da (sl_a (sl_c (sl_c (sl_dc (sl_c (List.Sublist.refl _))))))))
        have HF100 := Fits.conv (L' := (M_ ++ (bk g3 23 [.slice A_a1 a1.length c_a1] :: (bk g4 3 [.int .i64 8] :: (bk g1 3 [.int .i64 a0] :: ((L18 ++ D2) ++ F)))))) HF99 (by rw [hN4] <;> rfl)
        have HF101 := HF100.sublist (sl_a (sl_c (sl_c (sl_c (List.Sublist.append_right (sl_da (List.Sublist.refl _)) _)))))
        refine ⟨HF101, ?_⟩
        refine h1 7 (by kernel_rfl) rfl ?_
        have HF102 := HF98.perm (perm_f1 (perm_f1 (perm_f1 (perm_c1 (perm_c1 (List.Perm.refl _))))))
        refine qS rfl gd0 (oSt1 (l1 := [.slice A21 (s1 ++ [(⟨5, a0, 0, 0, 0, 0, [], 0, 0, t6, [], []⟩ : T_api_Packet)]).length c26]) HF102 rfl rfl ti33 rfl rfl rfl) ?_
        rintro w30 HF103
        have HF104 := HF103.sublist (sl_dc (sl_da (sl_da (sl_a (sl_c (sl_c (sl_c (List.Sublist.refl _))))))))
        have HF105 := Fits.conv (L' := (M_ ++ (bk g3 23 [.slice A_a1 a1.length c_a1] :: (bk g4 3 [.int .i64 8] :: (bk g1 3 [.int .i64 a0] :: ((L18 ++ D2) ++ F)))))) HF104 (by rw [hN4] <;> rfl)
        have HF106 := HF105.sublist (sl_a (sl_c (sl_c (sl_c (List.Sublist.append_right (sl_da (List.Sublist.refl _)) _)))))
        refine ⟨HF106, ?_⟩
        refine hEnd (by kernel_rfl) ?_
        refine jN (kN (?_))
        have HF107 := HF103.sublist (sl_c (sl_a (sl_da (sl_a (sl_c (sl_c (sl_c (List.Sublist.refl _))))))))
        have HF108 := HF107.perm (perm_c1 (perm_f1 (perm_f1 (perm_c1 (perm_c1 (List.Perm.refl _))))))
        have HF109 := HF108.perm (perm_c1 (List.Perm.refl _))
        have HF110 := HF109.perm (perm_c1 (perm_c1 (perm_f1 (perm_f1 (perm_c1 (List.Perm.refl _))))))
        have HF111 := HF110.perm (perm_c1 (perm_c1 (perm_c1 (perm_f1 (perm_f1 (List.Perm.refl _))))))
        have HF112 := HF111.perm (perm_c (perm_c (perm_c (perm_c (List.Perm.refl _)))))
        have HF113 := HF112.perm (perm_f (perm_c (perm_c (perm_c (perm_c (List.Perm.refl _))))))
        obtain rfl := Option.some.inj H
        exact ofEnv (fun a hE => ⟨N4, _, _, L20, HF113, ho20⟩)
      · have HF91 := HF89.perm (perm_f (perm_f (perm_c (perm_c (perm_c (perm_c (List.Perm.refl _))))))).symm
        obtain ⟨N4, hN4⟩ : ∃ N_, N_ = L18 ++ D2 := ⟨_, rfl⟩
        have HF92 := HF91; rw [← List.append_assoc L18 D2 F, ← hN4] at HF92
        have hs8 : D2 ++ G ⊆ N4 ++ G := frz_s hN4
        have hz6 : RdS k_T_api_Head (N4 ++ G) A19 c23 t6 := RdS.mono ho18.rd (frz_l hN4)
        refine qW rfl gd0 (oLit (r := [.int .i64 5, .int .i64 a0, .int .i64 0, .int .i64 0, .int .i64 0, .int .i64 0, .slice none 0 0, .int .i64 0, .int .i64 0, .slice A19 t6.length c23, .slice none 0 0, .slice none 0 0]) (kShr (N4 ++ G) k_T_api_Packet) [(⟨5, a0, 0, 0, 0, 0, [], 0, 0, t6, [], []⟩ : T_api_Packet)] HF92 Try.underlying33 ti38 rfl rfl rfl rfl ⟨[], [], [.int .i64 5, .int .i64 a0, .int .i64 0, .int .i64 0, .int .i64 0, .int .i64 0, .slice none 0 0, .int .i64 0, .int .i64 0, .slice A19 t6.length c23, .slice none 0 0, .slice none 0 0], _, rfl, rfl, ⟨rfl, mk_T_api_Packet (x := (⟨5, a0, 0, 0, 0, 0, [], 0, 0, t6, [], []⟩ : T_api_Packet)) (RdS.nil) (hz6) (RdS.nil) (RdS.nil)⟩, ⟨rfl, rfl⟩⟩ rfl rfl) rfl ?_
        rintro _ w28 ⟨L19, A20, c24, rfl, HF93, ho19⟩
        have HF94 := HF93.sublist (sl_da (sl_a (sl_da (sl_c (sl_c (sl_dc (sl_c (List.Sublist.refl _))))))))
        have HF95 := Fits.conv (L' := (M_ ++ (bk g3 23 [.slice A_a1 a1.length c_a1] :: (bk g4 3 [.int .i64 8] :: (bk g1 3 [.int .i64 a0] :: ((L18 ++ D2) ++ F)))))) HF94 (by rw [hN4] <;> rfl)
        have HF96 := HF95.sublist (sl_a (sl_c (sl_c (sl_c (List.Sublist.append_right (sl_da (List.Sublist.refl _)) _)))))
        refine ⟨HF96, ?_⟩
        refine h1 0 (by kernel_rfl) rfl ?_
        refine qL rfl gd0 (ld rfl Try.underlying33 rfl (HF93.box (mem_a (mem_a (mem_a (mem_c (mem_c mem_h))))) rfl)) rfl HF96 ?_
        refine h1 6 (by kernel_rfl) rfl ?_
        replace H := chk H; obtain ⟨c25, H⟩ := H
        have HF97 := HF93.perm (perm_f (perm_f (List.Perm.refl _)))
        refine qW rfl gd0 (oApp (xs := s1) (ys := ([(⟨5, a0, 0, 0, 0, 0, [], 0, 0, t6, [], []⟩ : T_api_Packet)])) (kShr (N4 ++ G) k_T_api_Packet) HF97 rfl rfl Try.underlying33 Try.underlying33 ti38 rfl (OwnS.lift ho14 hs8) (srcR shrS ho19.rd HF97 (sub_a sub_h)) c25 rfl) rfl ?_
        rintro _ w29 ⟨L20, A21, c26, rfl, HF98, ho20⟩
        have HF99 := HF98.sublist (sl_da (sl_da (sl_a (sl_c (sl_c (sl_dc (sl_c (List.Sublist.refl _))))))))
        have HF100 := Fits.conv (L' := (M_ ++ (bk g3 23 [.slice A_a1 a1.length c_a1] :: (bk g4 3 [.int .i64 8] :: (bk g1 3 [.int .i64 a0] :: ((L18 ++ D2) ++ F)))))) HF99 (by rw [hN4] <;> rfl)
        have HF101 := HF100.sublist (sl_a (sl_c (sl_c (sl_c (List.Sublist.append_right (sl_da (List.Sublist.refl _)) _)))))
        refine ⟨HF101, ?_⟩
        refine h1 7 (by kernel_rfl) rfl ?_
        have HF102 := HF98.perm (perm_f1 (perm_f1 (perm_f1 (perm_c1 (perm_c1 (List.Perm.refl _))))))
        refine qS rfl gd0 (oSt1 (l1 := [.slice A21 (s1 ++ [(⟨5, a0, 0, 0, 0, 0, [], 0, 0, t6, [], []⟩ : T_api_Packet)]).length c26]) HF102 rfl rfl ti33 rfl rfl rfl) ?_
        rintro w30 HF103
        have HF104 := HF103.sublist (sl_dc (sl_da (sl_da (sl_a (sl_c (sl_c (sl_c (List.Sublist.refl _))))))))
        have HF105 := Fits.conv (L' := (M_ ++ (bk g3 23 [.slice A_a1 a1.length c_a1] :: (bk g4 3 [.int .i64 8] :: (bk g1 3 [.int .i64 a0] :: ((L18 ++ D2) ++ F)))))) HF104 (by rw [hN4] <;> rfl)
        have HF106 := HF105.sublist (sl_a (sl_c (sl_c (sl_c (List.Sublist.append_right (sl_da (List.Sublist.refl _)) _)))))
        refine ⟨HF106, ?_⟩
        refine hEnd (by kernel_rfl) ?_
        refine jN (kN (?_))
        have HF107 := HF103.sublist (sl_c (sl_a (sl_da (sl_a (sl_c (sl_c (sl_c (List.Sublist.refl _))))))))
        have HF108 := HF107.perm (perm_c1 (perm_f1 (perm_f1 (perm_c1 (perm_c1 (List.Perm.refl _))))))
        have HF109 := HF108.perm (perm_c1 (List.Perm.refl _))
        have HF110 := HF109.perm (perm_c1 (perm_c1 (perm_f1 (perm_f1 (perm_c1 (List.Perm.refl _))))))
        have HF111 := HF110.perm (perm_c1 (perm_c1 (perm_c1 (perm_f1 (perm_f1 (List.Perm.refl _))))))
        have HF112 := HF111.perm (perm_c (perm_c (perm_c (perm_c (List.Perm.refl _)))))
        have HF113 := HF112.perm (perm_f (perm_c (perm_c (perm_c (perm_c (List.Perm.refl _))))))
        obtain rfl := Option.some.inj H
        exact ofEnv (fun a hE => ⟨N4, _, _, L20, HF113, ho20⟩)
  · rintro D3 w_ ⟨D2, A15, c18, L14, HF115, ho14⟩
    replace H := Ho1
    have hs9 : G ⊆ D2 ++ G := sub_a sub_r
    refine sL (ld rfl Try.underlying33 rfl (HF115.box (mem_a (mem_a (mem_c (mem_c mem_h)))) rfl)) rfl ?_
    refine sL (asg rfl) rfl ?_
    refine lEnd (K := fun _ _ => True) ?_
    obtain rfl := Option.some.inj H
    have HF116 := HF115.sublist (sl_a (sl_a (sl_dc (sl_dc (sl_dc (sl_dc (List.Sublist.refl _)))))))
    refine tl1 rfl rfl HF116 (fun w_ HFe_ => ?_)
    exact ⟨D2, _, _, L14, rfl, HFe_, ho14⟩
/-! ### plenum/plenumref1.Ints (function 47) -/
abbrev f_plenumref1_Ints.R := Bool
noncomputable def f_plenumref1_Ints.b0 (a0 : List Int) (a1 : List Int) (s1 : Int) : Option (Sum (Int) (Sum (Int) f_plenumref1_Ints.R)) := (if s1 < (a0.length : Int) then (if 0 ≤ s1 then (if s1 < (a1.length : Int) then (if (rd a0 s1) = (rd a1 s1) then some (.inl (IntKind.i64.wrap (s1 + 1))) else some (.inr (.inr false))) else none) else none) else some (.inr (.inl s1)))
noncomputable def f_plenumref1_Ints (a0 : List Int) (a1 : List Int) : Option f_plenumref1_Ints.R := (if (a0.length : Int) = (a1.length : Int) then ((loopO (f_plenumref1_Ints.b0 a0 a1) 0).bind fun y1 => match y1 with | .inl s1 => some true | .inr r_ => some r_) else some false)
set_option maxHeartbeats 1000000 in
theorem f_plenumref1_Ints.ok {z w : World} {F G : Hp} (hG : G ⊆ F) {a0 : List Int} {A_a0 : Option Addr} {c_a0 : Nat} {X_a0 : Hp} {a1 : List Int} {A_a1 : Option Addr} {c_a1 : Nat} {X_a1 : Hp} {r : f_plenumref1_Ints.R} (H : f_plenumref1_Ints a0 a1 = some r) (HF : Fits z w F) (hX_a0 : X_a0 ⊆ F) (hr_a0 : RdS (kInt .i64) X_a0 A_a0 c_a0 a0) (hX_a1 : X_a1 ⊆ F) (hr_a1 : RdS (kInt .i64) X_a1 A_a1 c_a1 a1) :
    Calls Try.prog 47 [.slice A_a0 a0.length c_a0, .slice A_a1 a1.length c_a1].toArray w fun e w' => e = .returned (.bool r) ∧ Fits z w' F := by
  unfold f_plenumref1_Ints at H
  refine enter0 Try.func47 rfl Try.ntmps47 rfl (E := [(0, .slice A_a0 a0.length c_a0), (1, .slice A_a1 a1.length c_a1)]) rfl ?_
  refine cSeq (fun K1 hK1 => ?_)
  refine cRgn [] trivial ?_
  refine sL (asg rfl) rfl ?_
  refine lEnd (K := fun _ _ => True) ?_
  refine kN (?_)
  refine hK1 _ _ ?_
  refine cSeq (fun K2 hK2 => ?_)
  refine cSeq (fun K3 hK3 => ?_)
  refine cRgn [] trivial ?_
  refine sL (mv rfl) rfl ?_
  refine sL (lnS rfl Try.underlying29) rfl ?_
  refine sL (mv rfl) rfl ?_
  refine sL (lnS rfl Try.underlying29) rfl ?_
  refine sL (bNeq rfl rfl) rfl ?_
  refine lEnd (K := fun _ _ => True) ?_
  refine kN (?_)
  refine hK3 _ _ ?_
  by_cases c1 : (a0.length : Int) = (a1.length : Int)
  · replace H := itT c1 H
    refine cSet (i := 10) rfl (nF c1) ?_
    refine cF rfl ?_
    refine cSkip ?_
    refine kN (?_)
    refine hK2 _ _ ?_
    refine cSeq (fun K4 hK4 => ?_)
    refine cSeq (fun K5 hK5 => ?_)
    refine cRgn [] trivial ?_
    refine sL (asg rfl) rfl ?_
    refine lEnd (K := fun _ _ => True) ?_
    refine kN (?_)
    refine hK5 _ _ ?_
    replace H := bnd H; obtain ⟨y1, J1, Ho1⟩ := H
    refine cLoopB (f_plenumref1_Ints.b0 a0 a1) (fun (s1 : Int) a w => Env 26 [(0, .slice A_a0 a0.length c_a0), (1, .slice A_a1 a1.length c_a1), (4, .bool false), (5, .int .i64 s1)] a ∧ Fits z w F) J1 (fun a hE => ⟨hE.keep (Keep.cons rfl (Keep.cons rfl (Keep.cons rfl (Keep.cons rfl (Keep.nil))))), HF⟩) ?_ ?_
    · rintro s1 a w3 y2 ⟨hE, HF3⟩ H Hx1
      refine go_ hE ?_
      refine cSeq (fun K16 hK16 => ?_)
      refine cSeq (fun K17 hK17 => ?_)
      refine cRgn [] trivial ?_
      refine sL (mv rfl) rfl ?_
      refine sL (mv rfl) rfl ?_
      refine sL (lnS rfl Try.underlying29) rfl ?_
      refine sL (bLss rfl rfl) rfl ?_
      refine lEnd (K := fun _ _ => True) ?_
      refine kN (?_)
      refine hK17 _ _ ?_
      by_cases c12 : s1 < (a0.length : Int)
      · replace H := itT c12 H
        refine cSet (i := 14) rfl (dT c12) ?_
        refine cT rfl ?_
        refine cSkip ?_
        refine kN (?_)
        refine hK16 _ _ ?_
        refine cSeq (fun K18 hK18 => ?_)
        refine cBlock ?_
        refine cSeq (fun K19 hK19 => ?_)
        refine cDraw mo_ HF3 rfl (fun w => Fits z w F) (fun w4 HF4 => ?_)
        refine hTake 0 rfl (by kernel_rfl) (pThen (pBlock (pThen (pThen (pBlock (pThen (pThen pFn))))))) (fun w_ hS_ => mv rfl) HF4 rfl rfl ?_
        refine hTake 1 rfl (by kernel_rfl) (pThen (pBlock (pThen (pThen (pBlock (pThen (pThen pFn))))))) (fun w_ hS_ => mv rfl) HF4 rfl rfl ?_
        replace H := chk H; obtain ⟨c15, H⟩ := H
        obtain ⟨g11, o11, _, rfl, rfl, q11⟩ := RdS.at_ hr_a0 c15 c12
        refine hTake 2 rfl (by kernel_rfl) (pThen (pBlock (pThen (pThen (pBlock (pThen (pThen pFn))))))) (fun w_ hS_ => ia rfl rfl Try.underlying29 ti3 c15 c12) HF4 rfl rfl ?_
        refine hTake 3 rfl (by kernel_rfl) (pThen (pBlock (pThen (pThen (pBlock (pThen (pThen pFn))))))) (fun w_ hS_ => ld rfl Try.underlying3 rfl (hS_.cells (hX_a0) (q11 0 _ rfl))) HF4 rfl rfl ?_
        refine hTake 4 rfl (by kernel_rfl) (pThen (pBlock (pThen (pThen (pBlock (pThen (pThen pFn))))))) (fun w_ hS_ => mv rfl) HF4 rfl rfl ?_
        refine hTake 5 rfl (by kernel_rfl) (pThen (pBlock (pThen (pThen (pBlock (pThen (pThen pFn))))))) (fun w_ hS_ => mv rfl) HF4 rfl rfl ?_
        replace H := chk H; obtain ⟨c16, H⟩ := H
        obtain ⟨g12, o12, _, rfl, rfl, q12⟩ := RdS.at_ hr_a1 c15 c16
        refine hTake 6 rfl (by kernel_rfl) (pThen (pBlock (pThen (pThen (pBlock (pThen (pThen pFn))))))) (fun w_ hS_ => ia rfl rfl Try.underlying29 ti3 c15 c16) HF4 rfl rfl ?_
        refine hTake 7 rfl (by kernel_rfl) (pThen (pBlock (pThen (pThen (pBlock (pThen (pThen pFn))))))) (fun w_ hS_ => ld rfl Try.underlying3 rfl (hS_.cells (hX_a1) (q12 0 _ rfl))) HF4 rfl rfl ?_
        refine hTake 8 rfl (by kernel_rfl) (pThen (pBlock (pThen (pThen (pBlock (pThen (pThen pFn))))))) (fun w_ hS_ => bNeq rfl rfl) HF4 rfl rfl ?_
        refine hEnd (by kernel_rfl) ?_
        refine kN (?_)
        refine hK19 _ _ ?_
        by_cases c17 : (rd a0 s1) = (rd a1 s1)
        · replace H := itT c17 H
          refine cSet (i := 25) rfl (nF c17) ?_
          refine cF rfl ?_
          refine cSkip ?_
          refine jN (kN (?_))
          refine hK18 _ _ ?_
          refine cRgn [] trivial ?_
          refine sL (mv rfl) rfl ?_
          refine sL (bAdd rfl rfl) rfl ?_
          refine sL (asg rfl) rfl ?_
          refine lEnd (K := fun _ _ => True) ?_
          refine kN (?_)
          exact ofEnv (fun a hE => ⟨_, (Option.some.inj H).symm, ⟨hE.keep (Keep.cons rfl (Keep.cons rfl (Keep.cons rfl (Keep.cons rfl (Keep.nil))))), HF4⟩⟩)
        · replace H := itF c17 H
          refine cSet (i := 25) rfl (nT c17) ?_
          refine cT rfl ?_
          refine cSeq (fun K20 hK20 => ?_)
          refine cRgn [] trivial ?_
          refine sL (asg rfl) rfl ?_
          refine lEnd (K := fun _ _ => True) ?_
          refine kN (?_)
          refine hK20 _ _ ?_
          refine cRet ?_
          have e_ := Hx1 _ (Option.some.inj H).symm
          subst e_
          replace H := Ho1
          obtain rfl := Option.some.inj H
          refine jR (kR (kR (jR (kR (kR (?_))))))
          refine ret1 rfl rfl ?_
          exact ⟨rfl, HF4⟩
      · replace H := itF c12 H
        refine cSet (i := 14) rfl (dF c12) ?_
        refine cF rfl ?_
        refine cExit ?_
        refine kX (kX (jX (kN (?_))))
        exact ofEnv (fun a hE => ⟨_, (Option.some.inj H).symm, ⟨hE.keep (Keep.cons rfl (Keep.cons rfl (Keep.cons rfl (Keep.cons rfl (Keep.nil))))), HF3⟩⟩)
    · rintro s1 a w5 rfl ⟨hE, HF5⟩
      replace H := Ho1
      refine go_k hE ?_
      refine kN (?_)
      refine hK4 _ _ ?_
      refine cSeq (fun K21 hK21 => ?_)
      refine cRgn [] trivial ?_
      refine sL (asg rfl) rfl ?_
      refine lEnd (K := fun _ _ => True) ?_
      refine kN (?_)
      refine hK21 _ _ ?_
      refine cRet ?_
      obtain rfl := Option.some.inj H
      refine ret1 rfl rfl ?_
      exact ⟨rfl, HF5⟩
  · replace H := itF c1 H
    refine cSet (i := 10) rfl (nT c1) ?_
    refine cT rfl ?_
    refine cSeq (fun K22 hK22 => ?_)
    refine cRgn [] trivial ?_
    refine sL (asg rfl) rfl ?_
    refine lEnd (K := fun _ _ => True) ?_
    refine kN (?_)
    refine hK22 _ _ ?_
    refine cRet ?_
    obtain rfl := Option.some.inj H
    refine kR (?_)
    refine ret1 rfl rfl ?_
    exact ⟨rfl, HF⟩
/-! ### plenum/plenumref1.Verts (function 48) -/
abbrev f_plenumref1_Verts.R := Bool
noncomputable def f_plenumref1_Verts.b0 (a0 : List T_api_Vert) (a1 : List T_api_Vert) (s1 : Int) : Option (Sum (Int) (Sum (Int) f_plenumref1_Verts.R)) := (if s1 < (a0.length : Int) then (if 0 ≤ s1 then (if s1 < (a1.length : Int) then (if (rd a0 s1) = (rd a1 s1) then some (.inl (IntKind.i64.wrap (s1 + 1))) else some (.inr (.inr false))) else none) else none) else some (.inr (.inl s1)))
noncomputable def f_plenumref1_Verts (a0 : List T_api_Vert) (a1 : List T_api_Vert) : Option f_plenumref1_Verts.R := (if (a0.length : Int) = (a1.length : Int) then ((loopO (f_plenumref1_Verts.b0 a0 a1) 0).bind fun y1 => match y1 with | .inl s1 => some true | .inr r_ => some r_) else some false)
set_option maxHeartbeats 1000000 in
theorem f_plenumref1_Verts.ok {z w : World} {F G : Hp} (hG : G ⊆ F) {a0 : List T_api_Vert} {A_a0 : Option Addr} {c_a0 : Nat} {X_a0 : Hp} {a1 : List T_api_Vert} {A_a1 : Option Addr} {c_a1 : Nat} {X_a1 : Hp} {r : f_plenumref1_Verts.R} (H : f_plenumref1_Verts a0 a1 = some r) (HF : Fits z w F) (hX_a0 : X_a0 ⊆ F) (hr_a0 : RdS k_T_api_Vert X_a0 A_a0 c_a0 a0) (hX_a1 : X_a1 ⊆ F) (hr_a1 : RdS k_T_api_Vert X_a1 A_a1 c_a1 a1) :
    Calls Try.prog 48 [.slice A_a0 a0.length c_a0, .slice A_a1 a1.length c_a1].toArray w fun e w' => e = .returned (.bool r) ∧ Fits z w' F := by
  unfold f_plenumref1_Verts at H
  refine enter0 Try.func48 rfl Try.ntmps48 rfl (E := [(0, .slice A_a0 a0.length c_a0), (1, .slice A_a1 a1.length c_a1)]) rfl ?_
  refine cSeq (fun K1 hK1 => ?_)
  refine cRgn [] trivial ?_
  refine sL (asg rfl) rfl ?_
  refine lEnd (K := fun _ _ => True) ?_
  refine kN (?_)
  refine hK1 _ _ ?_
  refine cSeq (fun K2 hK2 => ?_)
  refine cSeq (fun K3 hK3 => ?_)
  refine cRgn [] trivial ?_
  refine sL (mv rfl) rfl ?_
  refine sL (lnS rfl Try.underlying30) rfl ?_
  refine sL (mv rfl) rfl ?_
  refine sL (lnS rfl Try.underlying30) rfl ?_
  refine sL (bNeq rfl rfl) rfl ?_
  refine lEnd (K := fun _ _ => True) ?_
  refine kN (?_)
  refine hK3 _ _ ?_
  by_cases c1 : (a0.length : Int) = (a1.length : Int)
  · replace H := itT c1 H
    refine cSet (i := 10) rfl (nF c1) ?_
    refine cF rfl ?_
    refine cSkip ?_
    refine kN (?_)
    refine hK2 _ _ ?_
    refine cSeq (fun K4 hK4 => ?_)
    refine cSeq (fun K5 hK5 => ?_)
    refine cRgn [] trivial ?_
    refine sL (asg rfl) rfl ?_
    refine lEnd (K := fun _ _ => True) ?_
    refine kN (?_)
    refine hK5 _ _ ?_
    replace H := bnd H; obtain ⟨y1, J1, Ho1⟩ := H
    refine cLoopB (f_plenumref1_Verts.b0 a0 a1) (fun (s1 : Int) a w => Env 26 [(0, .slice A_a0 a0.length c_a0), (1, .slice A_a1 a1.length c_a1), (4, .bool false), (5, .int .i64 s1)] a ∧ Fits z w F) J1 (fun a hE => ⟨hE.keep (Keep.cons rfl (Keep.cons rfl (Keep.cons rfl (Keep.cons rfl (Keep.nil))))), HF⟩) ?_ ?_
    · rintro s1 a w3 y2 ⟨hE, HF3⟩ H Hx1
      refine go_ hE ?_
      refine cSeq (fun K16 hK16 => ?_)
      refine cSeq (fun K17 hK17 => ?_)
      refine cRgn [] trivial ?_
      refine sL (mv rfl) rfl ?_
      refine sL (mv rfl) rfl ?_
      refine sL (lnS rfl Try.underlying30) rfl ?_
      refine sL (bLss rfl rfl) rfl ?_
      refine lEnd (K := fun _ _ => True) ?_
      refine kN (?_)
      refine hK17 _ _ ?_
      by_cases c12 : s1 < (a0.length : Int)
      · replace H := itT c12 H
        refine cSet (i := 14) rfl (dT c12) ?_
        refine cT rfl ?_
        refine cSkip ?_
        refine kN (?_)
        refine hK16 _ _ ?_
        refine cSeq (fun K18 hK18 => ?_)
        refine cBlock ?_
        refine cSeq (fun K19 hK19 => ?_)
        refine cDraw mo_ HF3 rfl (fun w => Fits z w F) (fun w4 HF4 => ?_)
        refine hTake 0 rfl (by kernel_rfl) (pThen (pBlock (pThen (pThen (pBlock (pThen (pThen pFn))))))) (fun w_ hS_ => mv rfl) HF4 rfl rfl ?_
        refine hTake 1 rfl (by kernel_rfl) (pThen (pBlock (pThen (pThen (pBlock (pThen (pThen pFn))))))) (fun w_ hS_ => mv rfl) HF4 rfl rfl ?_
        replace H := chk H; obtain ⟨c15, H⟩ := H
        obtain ⟨g11, o11, _, rfl, rfl, q11⟩ := RdS.at_ hr_a0 c15 c12
        refine hTake 2 rfl (by kernel_rfl) (pThen (pBlock (pThen (pThen (pBlock (pThen (pThen pFn))))))) (fun w_ hS_ => ia rfl rfl Try.underlying30 ti61 c15 c12) HF4 rfl rfl ?_
        refine hTake 3 rfl (by kernel_rfl) (pThen (pBlock (pThen (pThen (pBlock (pThen (pThen pFn))))))) (fun w_ hS_ => ldA rfl ti61 rfl rfl (fun j v hj => hS_.cells (hX_a0) (q11 j v hj))) HF4 rfl rfl ?_
        refine hTake 4 rfl (by kernel_rfl) (pThen (pBlock (pThen (pThen (pBlock (pThen (pThen pFn))))))) (fun w_ hS_ => mv rfl) HF4 rfl rfl ?_
        refine hTake 5 rfl (by kernel_rfl) (pThen (pBlock (pThen (pThen (pBlock (pThen (pThen pFn))))))) (fun w_ hS_ => mv rfl) HF4 rfl rfl ?_
        replace H := chk H; obtain ⟨c16, H⟩ := H
        obtain ⟨g12, o12, _, rfl, rfl, q12⟩ := RdS.at_ hr_a1 c15 c16
        refine hTake 6 rfl (by kernel_rfl) (pThen (pBlock (pThen (pThen (pBlock (pThen (pThen pFn))))))) (fun w_ hS_ => ia rfl rfl Try.underlying30 ti61 c15 c16) HF4 rfl rfl ?_
        refine hTake 7 rfl (by kernel_rfl) (pThen (pBlock (pThen (pThen (pBlock (pThen (pThen pFn))))))) (fun w_ hS_ => ldA rfl ti61 rfl rfl (fun j v hj => hS_.cells (hX_a1) (q12 j v hj))) HF4 rfl rfl ?_
        refine hTake 8 rfl (by kernel_rfl) (pThen (pBlock (pThen (pThen (pBlock (pThen (pThen pFn))))))) (fun w_ hS_ => bAggNeq (xs := [.int .i64 ((rd a0 s1).f_Kind), .int .i64 ((rd a0 s1).f_Id)]) (ys := [.int .i64 ((rd a1 s1).f_Kind), .int .i64 ((rd a1 s1).f_Id)]) (n := 2) rfl rfl eg61 (eqStruct Try.underlying61 sh61 (eqFcons (by decide) (pt1 Try.underlying3 rfl rfl) (pt1 Try.underlying3 rfl rfl) (eqInt Try.underlying3) (eqFcons (by decide) (pt1 Try.underlying3 rfl rfl) (pt1 Try.underlying3 rfl rfl) (eqInt Try.underlying3) eqFnil))) rfl (eq_T_api_Vert (rd a0 s1) (rd a1 s1))) HF4 rfl rfl ?_
        refine hEnd (by kernel_rfl) ?_
        refine kN (?_)
        refine hK19 _ _ ?_
        by_cases c17 : (rd a0 s1) = (rd a1 s1)
        · replace H := itT c17 H
          refine cSet (i := 25) rfl (nF c17) ?_
          refine cF rfl ?_
          refine cSkip ?_
          refine jN (kN (?_))
          refine hK18 _ _ ?_
          refine cRgn [] trivial ?_
          refine sL (mv rfl) rfl ?_
          refine sL (bAdd rfl rfl) rfl ?_
          refine sL (asg rfl) rfl ?_
          refine lEnd (K := fun _ _ => True) ?_
          refine kN (?_)
          exact ofEnv (fun a hE => ⟨_, (Option.some.inj H).symm, ⟨hE.keep (Keep.cons rfl (Keep.cons rfl (Keep.cons rfl (Keep.cons rfl (Keep.nil))))), HF4⟩⟩)
        · replace H := itF c17 H
          refine cSet (i := 25) rfl (nT c17) ?_
          refine cT rfl ?_
          refine cSeq (fun K20 hK20 => ?_)
          refine cRgn [] trivial ?_
          refine sL (asg rfl) rfl ?_
          refine lEnd (K := fun _ _ => True) ?_
          refine kN (?_)
          refine hK20 _ _ ?_
          refine cRet ?_
          have e_ := Hx1 _ (Option.some.inj H).symm
          subst e_
          replace H := Ho1
          obtain rfl := Option.some.inj H
          refine jR (kR (kR (jR (kR (kR (?_))))))
          refine ret1 rfl rfl ?_
          exact ⟨rfl, HF4⟩
      · replace H := itF c12 H
        refine cSet (i := 14) rfl (dF c12) ?_
        refine cF rfl ?_
        refine cExit ?_
        refine kX (kX (jX (kN (?_))))
        exact ofEnv (fun a hE => ⟨_, (Option.some.inj H).symm, ⟨hE.keep (Keep.cons rfl (Keep.cons rfl (Keep.cons rfl (Keep.cons rfl (Keep.nil))))), HF3⟩⟩)
    · rintro s1 a w5 rfl ⟨hE, HF5⟩
      replace H := Ho1
      refine go_k hE ?_
      refine kN (?_)
      refine hK4 _ _ ?_
      refine cSeq (fun K21 hK21 => ?_)
      refine cRgn [] trivial ?_
      refine sL (asg rfl) rfl ?_
      refine lEnd (K := fun _ _ => True) ?_
      refine kN (?_)
      refine hK21 _ _ ?_
      refine cRet ?_
      obtain rfl := Option.some.inj H
      refine ret1 rfl rfl ?_
      exact ⟨rfl, HF5⟩
  · replace H := itF c1 H
    refine cSet (i := 10) rfl (nT c1) ?_
    refine cT rfl ?_
    refine cSeq (fun K22 hK22 => ?_)
    refine cRgn [] trivial ?_
    refine sL (asg rfl) rfl ?_
    refine lEnd (K := fun _ _ => True) ?_
    refine kN (?_)
    refine hK22 _ _ ?_
    refine cRet ?_
    obtain rfl := Option.some.inj H
    refine kR (?_)
    refine ret1 rfl rfl ?_
    exact ⟨rfl, HF⟩
/-! ### plenum/plenumref1.Body (function 35) -/
abbrev f_plenumref1_Body.R := Bool
noncomputable def f_plenumref1_Body.b0 (a0 : T_api_Lsa) (a1 : T_api_Lsa) (s2 : Int) : Option (Sum (Int) (Sum (Int) f_plenumref1_Body.R)) := (if s2 < (a0.f_Links.length : Int) then (if 0 ≤ s2 then (if s2 < (a1.f_Links.length : Int) then (if (rd a0.f_Links s2) = (rd a1.f_Links s2) then some (.inl (IntKind.i64.wrap (s2 + 1))) else some (.inr (.inr false))) else none) else none) else some (.inr (.inl s2)))
noncomputable def f_plenumref1_Body (a0 : T_api_Lsa) (a1 : T_api_Lsa) : Option f_plenumref1_Body.R := ((((if a0.f_Head.f_Kind = a1.f_Head.f_Kind then (if a0.f_Flags = a1.f_Flags then (if (a0.f_Links.length : Int) = (a1.f_Links.length : Int) then (if a0.f_Bits = a1.f_Bits then ((f_plenumref1_Ints a0.f_Routers a1.f_Routers).bind fun t3 => (if t3 = true then ((f_plenumref1_Verts a0.f_Verts a1.f_Verts).bind fun t4 => some (.inl (!t4))) else some (.inl true))) else some (.inl true)) else some (.inl true)) else some (.inl true)) else some (.inl true)) : Option (Sum (Bool) f_plenumref1_Body.R))).bind fun y1 => match y1 with | .inl s1 => (if s1 = true then some false else ((loopO (f_plenumref1_Body.b0 a0 a1) 0).bind fun y2 => match y2 with | .inl s2 => some true | .inr r_ => some r_)) | .inr r_ => some r_)
set_option maxHeartbeats 1000000 in
theorem f_plenumref1_Body.ok {z w : World} {F G : Hp} (hG : G ⊆ F) {a0 : T_api_Lsa} {A_a0_8 : Option Addr} {c_a0_8 : Nat} {X_a0_8 : Hp} {A_a0_10 : Option Addr} {c_a0_10 : Nat} {X_a0_10 : Hp} {A_a0_11 : Option Addr} {c_a0_11 : Nat} {X_a0_11 : Hp} {a1 : T_api_Lsa} {A_a1_8 : Option Addr} {c_a1_8 : Nat} {X_a1_8 : Hp} {A_a1_10 : Option Addr} {c_a1_10 : Nat} {X_a1_10 : Hp} {A_a1_11 : Option Addr} {c_a1_11 : Nat} {X_a1_11 : Hp} {r : f_plenumref1_Body.R} (H : f_plenumref1_Body a0 a1 = some r) (HF : Fits z w F) (hX_a0_8 : X_a0_8 ⊆ F) (hr_a0_8 : RdS k_T_api_Link X_a0_8 A_a0_8 c_a0_8 a0.f_Links) (hX_a0_10 : X_a0_10 ⊆ F) (hr_a0_10 : RdS (kInt .i64) X_a0_10 A_a0_10 c_a0_10 a0.f_Routers) (hX_a0_11 : X_a0_11 ⊆ F) (hr_a0_11 : RdS k_T_api_Vert X_a0_11 A_a0_11 c_a0_11 a0.f_Verts) (hX_a1_8 : X_a1_8 ⊆ F) (hr_a1_8 : RdS k_T_api_Link X_a1_8 A_a1_8 c_a1_8 a1.f_Links) (hX_a1_10 : X_a1_10 ⊆ F) (hr_a1_10 : RdS (kInt .i64) X_a1_10 A_a1_10 c_a1_10 a1.f_Routers) (hX_a1_11 : X_a1_11 ⊆ F) (hr_a1_11 : RdS k_T_api_Vert X_a1_11 A_a1_11 c_a1_11 a1.f_Verts) :
    Calls Try.prog 35 [.agg [.int .i64 a0.f_Head.f_Age, .int .i64 a0.f_Head.f_Kind, .int .i64 a0.f_Head.f_Id, .int .i64 a0.f_Head.f_Adv, .int .i64 a0.f_Head.f_Seq, .int .i64 a0.f_Head.f_Sum, .int .i64 a0.f_Head.f_Len, .int .i64 a0.f_Flags, .slice A_a0_8 a0.f_Links.length c_a0_8, .int .i64 a0.f_Bits, .slice A_a0_10 a0.f_Routers.length c_a0_10, .slice A_a0_11 a0.f_Verts.length c_a0_11].toArray, .agg [.int .i64 a1.f_Head.f_Age, .int .i64 a1.f_Head.f_Kind, .int .i64 a1.f_Head.f_Id, .int .i64 a1.f_Head.f_Adv, .int .i64 a1.f_Head.f_Seq, .int .i64 a1.f_Head.f_Sum, .int .i64 a1.f_Head.f_Len, .int .i64 a1.f_Flags, .slice A_a1_8 a1.f_Links.length c_a1_8, .int .i64 a1.f_Bits, .slice A_a1_10 a1.f_Routers.length c_a1_10, .slice A_a1_11 a1.f_Verts.length c_a1_11].toArray].toArray w fun e w' => e = .returned (.bool r) ∧ Fits z w' F := by
  unfold f_plenumref1_Body at H
  refine enter0 Try.func35 rfl Try.ntmps35 rfl (E := [(0, .agg [.int .i64 a0.f_Head.f_Age, .int .i64 a0.f_Head.f_Kind, .int .i64 a0.f_Head.f_Id, .int .i64 a0.f_Head.f_Adv, .int .i64 a0.f_Head.f_Seq, .int .i64 a0.f_Head.f_Sum, .int .i64 a0.f_Head.f_Len, .int .i64 a0.f_Flags, .slice A_a0_8 a0.f_Links.length c_a0_8, .int .i64 a0.f_Bits, .slice A_a0_10 a0.f_Routers.length c_a0_10, .slice A_a0_11 a0.f_Verts.length c_a0_11].toArray), (1, .agg [.int .i64 a1.f_Head.f_Age, .int .i64 a1.f_Head.f_Kind, .int .i64 a1.f_Head.f_Id, .int .i64 a1.f_Head.f_Adv, .int .i64 a1.f_Head.f_Seq, .int .i64 a1.f_Head.f_Sum, .int .i64 a1.f_Head.f_Len, .int .i64 a1.f_Flags, .slice A_a1_8 a1.f_Links.length c_a1_8, .int .i64 a1.f_Bits, .slice A_a1_10 a1.f_Routers.length c_a1_10, .slice A_a1_11 a1.f_Verts.length c_a1_11].toArray)]) rfl ?_
  refine cSeq (fun K1 hK1 => ?_)
  refine cRgn [] trivial ?_
  refine eW (oBox HF rfl) rfl ?_
  rintro _ w1 ⟨g1, rfl, HF1⟩
  refine eW (oBox HF1 rfl) rfl ?_
  rintro _ w2 ⟨g2, rfl, HF2⟩
  refine sL (asg rfl) rfl ?_
  refine lEnd (K := fun _ _ => True) ?_
  refine kN (?_)
  refine hK1 _ _ ?_
  refine cSeq (fun K2 hK2 => ?_)
  refine cSeq (fun K3 hK3 => ?_)
  replace H := bnd H; obtain ⟨y1, H, Ho1⟩ := H
  refine cJoin (y := y1) (fun (s1 : Bool) a w => Env 70 [(2, .pointer (some ⟨g1, 0, none⟩)), (3, .pointer (some ⟨g2, 0, none⟩)), (4, .bool false), (51, .bool s1)] a ∧ Fits z w (bk g2 32 [.int .i64 a1.f_Head.f_Age, .int .i64 a1.f_Head.f_Kind, .int .i64 a1.f_Head.f_Id, .int .i64 a1.f_Head.f_Adv, .int .i64 a1.f_Head.f_Seq, .int .i64 a1.f_Head.f_Sum, .int .i64 a1.f_Head.f_Len, .int .i64 a1.f_Flags, .slice A_a1_8 a1.f_Links.length c_a1_8, .int .i64 a1.f_Bits, .slice A_a1_10 a1.f_Routers.length c_a1_10, .slice A_a1_11 a1.f_Verts.length c_a1_11] :: (bk g1 32 [.int .i64 a0.f_Head.f_Age, .int .i64 a0.f_Head.f_Kind, .int .i64 a0.f_Head.f_Id, .int .i64 a0.f_Head.f_Adv, .int .i64 a0.f_Head.f_Seq, .int .i64 a0.f_Head.f_Sum, .int .i64 a0.f_Head.f_Len, .int .i64 a0.f_Flags, .slice A_a0_8 a0.f_Links.length c_a0_8, .int .i64 a0.f_Bits, .slice A_a0_10 a0.f_Routers.length c_a0_10, .slice A_a0_11 a0.f_Verts.length c_a0_11] :: F))) ?_ ?_
  · refine cRgn [(7, 13), (14, 20), (23, 29), (30, 36), (38, 44)] ⟨rfl, rfl, rfl, rfl, rfl, trivial⟩ ?_
    refine sL (fa32_0 rfl) rfl ?_
    refine sL (fa27_1 rfl) rfl ?_
    refine sL (ld rfl Try.underlying3 rfl (HF2.box (mem_c mem_h) rfl)) rfl ?_
    refine sL (fa32_0 rfl) rfl ?_
    refine sL (fa27_1 rfl) rfl ?_
    refine sL (ld rfl Try.underlying3 rfl (HF2.box (mem_h) rfl)) rfl ?_
    refine sL (bNeq rfl rfl) rfl ?_
    refine sL (mv rfl) rfl ?_
    by_cases c6 : a0.f_Head.f_Kind = a1.f_Head.f_Kind
    · replace H := itT c6 H
      refine lSet (i := 13) rfl (nF c6) ?_
      refine sG rfl rfl (fa32_1 rfl) rfl ?_
      refine sG rfl rfl (ld rfl Try.underlying3 rfl (HF2.box (mem_c mem_h) rfl)) rfl ?_
      refine sG rfl rfl (fa32_1 rfl) rfl ?_
      refine sG rfl rfl (ld rfl Try.underlying3 rfl (HF2.box (mem_h) rfl)) rfl ?_
      refine sG rfl rfl (bNeq rfl rfl) rfl ?_
      refine sL (pkF rfl rfl) rfl ?_
      refine sL (mv rfl) rfl ?_
      by_cases c7 : a0.f_Flags = a1.f_Flags
      · replace H := itT c7 H
        refine lSet (i := 20) rfl (nF c7) ?_
        refine sG rfl rfl (fa32_2 rfl) rfl ?_
        refine sG rfl rfl (ld rfl Try.underlying28 rfl (HF2.box (mem_c mem_h) rfl)) rfl ?_
        refine sG rfl rfl (lnS rfl Try.underlying28) rfl ?_
        refine sG rfl rfl (fa32_2 rfl) rfl ?_
        refine sG rfl rfl (ld rfl Try.underlying28 rfl (HF2.box (mem_h) rfl)) rfl ?_
        refine sG rfl rfl (lnS rfl Try.underlying28) rfl ?_
        refine sG rfl rfl (bNeq rfl rfl) rfl ?_
        refine sL (pkF rfl rfl) rfl ?_
        refine sL (mv rfl) rfl ?_
        by_cases c8 : (a0.f_Links.length : Int) = (a1.f_Links.length : Int)
        · replace H := itT c8 H
          refine lSet (i := 29) rfl (nF c8) ?_
          refine sG rfl rfl (fa32_3 rfl) rfl ?_
          refine sG rfl rfl (ld rfl Try.underlying3 rfl (HF2.box (mem_c mem_h) rfl)) rfl ?_
          refine sG rfl rfl (fa32_3 rfl) rfl ?_
          refine sG rfl rfl (ld rfl Try.underlying3 rfl (HF2.box (mem_h) rfl)) rfl ?_
          refine sG rfl rfl (bNeq rfl rfl) rfl ?_
          refine sL (pkF rfl rfl) rfl ?_
          refine sL (mv rfl) rfl ?_
          by_cases c9 : a0.f_Bits = a1.f_Bits
          · replace H := itT c9 H
            refine lSet (i := 36) rfl (nF c9) ?_
            refine sG rfl rfl (fa32_4 rfl) rfl ?_
            refine sG rfl rfl (ld rfl Try.underlying29 rfl (HF2.box (mem_c mem_h) rfl)) rfl ?_
            refine sG rfl rfl (fa32_4 rfl) rfl ?_
            refine sG rfl rfl (ld rfl Try.underlying29 rfl (HF2.box (mem_h) rfl)) rfl ?_
            replace H := bnd H; obtain ⟨t3, J3, H⟩ := H
            refine eCallG rfl rfl isf47 rfl rfl rfl (f_plenumref1_Ints.ok (a0 := a0.f_Routers) (a1 := a1.f_Routers) (sub_c (sub_c hG)) J3 HF2 (sub_c (sub_c hX_a0_10)) hr_a0_10 (sub_c (sub_c hX_a1_10)) hr_a1_10) ?_
            rintro _ w5 ⟨rfl, HF5⟩
            refine ⟨_, rfl, ?_⟩
            refine sG rfl rfl (uNot rfl) rfl ?_
            refine sL (pkF rfl rfl) rfl ?_
            refine sL (mv rfl) rfl ?_
            by_cases c10 : t3 = true
            · replace H := itT c10 H
              refine lSet (i := 44) rfl (wF c10) ?_
              refine sG rfl rfl (fa32_5 rfl) rfl ?_
              refine sG rfl rfl (ld rfl Try.underlying30 rfl (HF5.box (mem_c mem_h) rfl)) rfl ?_
              refine sG rfl rfl (fa32_5 rfl) rfl ?_
              refine sG rfl rfl (ld rfl Try.underlying30 rfl (HF5.box (mem_h) rfl)) rfl ?_
              replace H := bnd H; obtain ⟨t4, J4, H⟩ := H
              refine eCallG rfl rfl isf48 rfl rfl rfl (f_plenumref1_Verts.ok (a0 := a0.f_Verts) (a1 := a1.f_Verts) (sub_c (sub_c hG)) J4 HF5 (sub_c (sub_c hX_a0_11)) hr_a0_11 (sub_c (sub_c hX_a1_11)) hr_a1_11) ?_
              rintro _ w6 ⟨rfl, HF6⟩
              refine ⟨_, rfl, ?_⟩
              refine sG rfl rfl (uNot rfl) rfl ?_
              refine sL (pkF rfl rfl) rfl ?_
              refine lEnd (K := fun _ _ => True) ?_
              refine kN (?_)
              exact ofEnv (fun a hE => ⟨_, (Option.some.inj H).symm, ⟨hE.keep (Keep.cons rfl (Keep.cons rfl (Keep.cons rfl (Keep.cons rfl (Keep.nil))))), HF6⟩⟩)
            · replace H := itF c10 H
              refine lSet (i := 44) rfl (wT c10) ?_
              refine sN rfl rfl rfl rfl ?_
              refine sN rfl rfl rfl rfl ?_
              refine sN rfl rfl rfl rfl ?_
              refine sN rfl rfl rfl rfl ?_
              refine sN rfl rfl rfl rfl ?_
              refine sN rfl rfl rfl rfl ?_
              refine sL (pkT rfl rfl) rfl ?_
              refine lEnd (K := fun _ _ => True) ?_
              refine kN (?_)
              exact ofEnv (fun a hE => ⟨_, (Option.some.inj H).symm, ⟨hE.keep (Keep.cons rfl (Keep.cons rfl (Keep.cons rfl (Keep.cons rfl (Keep.nil))))), HF5⟩⟩)
          · replace H := itF c9 H
            refine lSet (i := 36) rfl (nT c9) ?_
            refine sN rfl rfl rfl rfl ?_
            refine sN rfl rfl rfl rfl ?_
            refine sN rfl rfl rfl rfl ?_
            refine sN rfl rfl rfl rfl ?_
            refine sN rfl rfl rfl rfl ?_
            refine sN rfl rfl rfl rfl ?_
            refine sL (pkT rfl rfl) rfl ?_
            refine sL (mv rfl) rfl ?_
            refine sN rfl rfl rfl rfl ?_
            refine sN rfl rfl rfl rfl ?_
            refine sN rfl rfl rfl rfl ?_
            refine sN rfl rfl rfl rfl ?_
            refine sN rfl rfl rfl rfl ?_
            refine sN rfl rfl rfl rfl ?_
            refine sL (pkT rfl rfl) rfl ?_
            refine lEnd (K := fun _ _ => True) ?_
            refine kN (?_)
            exact ofEnv (fun a hE => ⟨_, (Option.some.inj H).symm, ⟨hE.keep (Keep.cons rfl (Keep.cons rfl (Keep.cons rfl (Keep.cons rfl (Keep.nil))))), HF2⟩⟩)
        · replace H := itF c8 H
          refine lSet (i := 29) rfl (nT c8) ?_
          refine sN rfl rfl rfl rfl ?_
          refine sN rfl rfl rfl rfl ?_
          refine sN rfl rfl rfl rfl ?_
          refine sN rfl rfl rfl rfl ?_
          refine sN rfl rfl rfl rfl ?_
          refine sL (pkT rfl rfl) rfl ?_
          refine sL (mv rfl) rfl ?_
          refine sN rfl rfl rfl rfl ?_
          refine sN rfl rfl rfl rfl ?_
          refine sN rfl rfl rfl rfl ?_
          refine sN rfl rfl rfl rfl ?_
          refine sN rfl rfl rfl rfl ?_
          refine sN rfl rfl rfl rfl ?_
          refine sL (pkT rfl rfl) rfl ?_
          refine sL (mv rfl) rfl ?_
          refine sN rfl rfl rfl rfl ?_
          refine sN rfl rfl rfl rfl ?_
          refine sN rfl rfl rfl rfl ?_
          refine sN rfl rfl rfl rfl ?_
          refine sN rfl rfl rfl rfl ?_
          refine sN rfl rfl rfl rfl ?_
          refine sL (pkT rfl rfl) rfl ?_
          refine lEnd (K := fun _ _ => True) ?_
          refine kN (?_)
          exact ofEnv (fun a hE => ⟨_, (Option.some.inj H).symm, ⟨hE.keep (Keep.cons rfl (Keep.cons rfl (Keep.cons rfl (Keep.cons rfl (Keep.nil))))), HF2⟩⟩)
      · replace H := itF c7 H
        refine lSet (i := 20) rfl (nT c7) ?_
        refine sN rfl rfl rfl rfl ?_
        refine sN rfl rfl rfl rfl ?_
        refine sN rfl rfl rfl rfl ?_
        refine sN rfl rfl rfl rfl ?_
        refine sN rfl rfl rfl rfl ?_
        refine sN rfl rfl rfl rfl ?_
        refine sN rfl rfl rfl rfl ?_
        refine sL (pkT rfl rfl) rfl ?_
        refine sL (mv rfl) rfl ?_
        refine sN rfl rfl rfl rfl ?_
        refine sN rfl rfl rfl rfl ?_
        refine sN rfl rfl rfl rfl ?_
        refine sN rfl rfl rfl rfl ?_
        refine sN rfl rfl rfl rfl ?_
        refine sL (pkT rfl rfl) rfl ?_
        refine sL (mv rfl) rfl ?_
        refine sN rfl rfl rfl rfl ?_
        refine sN rfl rfl rfl rfl ?_
        refine sN rfl rfl rfl rfl ?_
        refine sN rfl rfl rfl rfl ?_
        refine sN rfl rfl rfl rfl ?_
        refine sN rfl rfl rfl rfl ?_
        refine sL (pkT rfl rfl) rfl ?_
        refine sL (mv rfl) rfl ?_
        refine sN rfl rfl rfl rfl ?_
        refine sN rfl rfl rfl rfl ?_
        refine sN rfl rfl rfl rfl ?_
        refine sN rfl rfl rfl rfl ?_
        refine sN rfl rfl rfl rfl ?_
        refine sN rfl rfl rfl rfl ?_
        refine sL (pkT rfl rfl) rfl ?_
        refine lEnd (K := fun _ _ => True) ?_
        refine kN (?_)
        exact ofEnv (fun a hE => ⟨_, (Option.some.inj H).symm, ⟨hE.keep (Keep.cons rfl (Keep.cons rfl (Keep.cons rfl (Keep.cons rfl (Keep.nil))))), HF2⟩⟩)
    · replace H := itF c6 H
      refine lSet (i := 13) rfl (nT c6) ?_
      refine sN rfl rfl rfl rfl ?_
      refine sN rfl rfl rfl rfl ?_
      refine sN rfl rfl rfl rfl ?_
      refine sN rfl rfl rfl rfl ?_
      refine sN rfl rfl rfl rfl ?_
      refine sL (pkT rfl rfl) rfl ?_
      refine sL (mv rfl) rfl ?_
      refine sN rfl rfl rfl rfl ?_
      refine sN rfl rfl rfl rfl ?_
      refine sN rfl rfl rfl rfl ?_
      refine sN rfl rfl rfl rfl ?_
      refine sN rfl rfl rfl rfl ?_
      refine sN rfl rfl rfl rfl ?_
      refine sN rfl rfl rfl rfl ?_
      refine sL (pkT rfl rfl) rfl ?_
      refine sL (mv rfl) rfl ?_
      refine sN rfl rfl rfl rfl ?_
      refine sN rfl rfl rfl rfl ?_
      refine sN rfl rfl rfl rfl ?_
      refine sN rfl rfl rfl rfl ?_
      refine sN rfl rfl rfl rfl ?_
      refine sL (pkT rfl rfl) rfl ?_
      refine sL (mv rfl) rfl ?_
      refine sN rfl rfl rfl rfl ?_
      refine sN rfl rfl rfl rfl ?_
      refine sN rfl rfl rfl rfl ?_
      refine sN rfl rfl rfl rfl ?_
      refine sN rfl rfl rfl rfl ?_
      refine sN rfl rfl rfl rfl ?_
      refine sL (pkT rfl rfl) rfl ?_
      refine sL (mv rfl) rfl ?_
      refine sN rfl rfl rfl rfl ?_
      refine sN rfl rfl rfl rfl ?_
      refine sN rfl rfl rfl rfl ?_
      refine sN rfl rfl rfl rfl ?_
      refine sN rfl rfl rfl rfl ?_
      refine sN rfl rfl rfl rfl ?_
      refine sL (pkT rfl rfl) rfl ?_
      refine lEnd (K := fun _ _ => True) ?_
      refine kN (?_)
      exact ofEnv (fun a hE => ⟨_, (Option.some.inj H).symm, ⟨hE.keep (Keep.cons rfl (Keep.cons rfl (Keep.cons rfl (Keep.cons rfl (Keep.nil))))), HF2⟩⟩)
  · rintro s1 a w7 rfl ⟨hE, HF7⟩
    replace H := Ho1
    refine go_k hE ?_
    refine kN (?_)
    refine hK3 _ _ ?_
    by_cases c11 : s1 = true
    · replace H := itT c11 H
      refine cSet (i := 51) rfl (vT c11) ?_
      refine cT rfl ?_
      refine cSeq (fun K4 hK4 => ?_)
      refine cRgn [] trivial ?_
      refine sL (asg rfl) rfl ?_
      refine lEnd (K := fun _ _ => True) ?_
      refine kN (?_)
      refine hK4 _ _ ?_
      refine cRet ?_
      obtain rfl := Option.some.inj H
      refine kR (?_)
      refine ret1 rfl rfl ?_
      have HF8 := HF7.sublist (sl_dc (sl_dc (List.Sublist.refl _)))
      exact ⟨rfl, HF8⟩
    · replace H := itF c11 H
      refine cSet (i := 51) rfl (vF c11) ?_
      refine cF rfl ?_
      refine cSkip ?_
      refine kN (?_)
      refine hK2 _ _ ?_
      refine cSeq (fun K5 hK5 => ?_)
      refine cSeq (fun K6 hK6 => ?_)
      refine cRgn [] trivial ?_
      refine sL (asg rfl) rfl ?_
      refine lEnd (K := fun _ _ => True) ?_
      refine kN (?_)
      refine hK6 _ _ ?_
      replace H := bnd H; obtain ⟨y2, J5, Ho2⟩ := H
      refine cLoopB (f_plenumref1_Body.b0 a0 a1) (fun (s2 : Int) a w => Env 70 [(2, .pointer (some ⟨g1, 0, none⟩)), (3, .pointer (some ⟨g2, 0, none⟩)), (4, .bool false), (5, .int .i64 s2)] a ∧ Fits z w (bk g2 32 [.int .i64 a1.f_Head.f_Age, .int .i64 a1.f_Head.f_Kind, .int .i64 a1.f_Head.f_Id, .int .i64 a1.f_Head.f_Adv, .int .i64 a1.f_Head.f_Seq, .int .i64 a1.f_Head.f_Sum, .int .i64 a1.f_Head.f_Len, .int .i64 a1.f_Flags, .slice A_a1_8 a1.f_Links.length c_a1_8, .int .i64 a1.f_Bits, .slice A_a1_10 a1.f_Routers.length c_a1_10, .slice A_a1_11 a1.f_Verts.length c_a1_11] :: (bk g1 32 [.int .i64 a0.f_Head.f_Age, .int .i64 a0.f_Head.f_Kind, .int .i64 a0.f_Head.f_Id, .int .i64 a0.f_Head.f_Adv, .int .i64 a0.f_Head.f_Seq, .int .i64 a0.f_Head.f_Sum, .int .i64 a0.f_Head.f_Len, .int .i64 a0.f_Flags, .slice A_a0_8 a0.f_Links.length c_a0_8, .int .i64 a0.f_Bits, .slice A_a0_10 a0.f_Routers.length c_a0_10, .slice A_a0_11 a0.f_Verts.length c_a0_11] :: F))) J5 (fun a hE => ⟨hE.keep (Keep.cons rfl (Keep.cons rfl (Keep.cons rfl (Keep.cons rfl (Keep.nil))))), HF7⟩) ?_ ?_
      · rintro s2 a w10 y3 ⟨hE, HF11⟩ H Hx1
        refine go_ hE ?_
        refine cSeq (fun K17 hK17 => ?_)
        refine cSeq (fun K18 hK18 => ?_)
        refine cRgn [] trivial ?_
        refine sL (mv rfl) rfl ?_
        refine sL (fa32_2 rfl) rfl ?_
        refine sL (ld rfl Try.underlying28 rfl (HF11.box (mem_c mem_h) rfl)) rfl ?_
        refine sL (lnS rfl Try.underlying28) rfl ?_
        refine sL (bLss rfl rfl) rfl ?_
        refine lEnd (K := fun _ _ => True) ?_
        refine kN (?_)
        refine hK18 _ _ ?_
        by_cases c22 : s2 < (a0.f_Links.length : Int)
        · replace H := itT c22 H
          refine cSet (i := 56) rfl (dT c22) ?_
          refine cT rfl ?_
          refine cSkip ?_
          refine kN (?_)
          refine hK17 _ _ ?_
          refine cSeq (fun K19 hK19 => ?_)
          refine cBlock ?_
          refine cSeq (fun K20 hK20 => ?_)
          refine cDraw mo_ HF11 rfl (fun w => Fits z w (bk g2 32 [.int .i64 a1.f_Head.f_Age, .int .i64 a1.f_Head.f_Kind, .int .i64 a1.f_Head.f_Id, .int .i64 a1.f_Head.f_Adv, .int .i64 a1.f_Head.f_Seq, .int .i64 a1.f_Head.f_Sum, .int .i64 a1.f_Head.f_Len, .int .i64 a1.f_Flags, .slice A_a1_8 a1.f_Links.length c_a1_8, .int .i64 a1.f_Bits, .slice A_a1_10 a1.f_Routers.length c_a1_10, .slice A_a1_11 a1.f_Verts.length c_a1_11] :: (bk g1 32 [.int .i64 a0.f_Head.f_Age, .int .i64 a0.f_Head.f_Kind, .int .i64 a0.f_Head.f_Id, .int .i64 a0.f_Head.f_Adv, .int .i64 a0.f_Head.f_Seq, .int .i64 a0.f_Head.f_Sum, .int .i64 a0.f_Head.f_Len, .int .i64 a0.f_Flags, .slice A_a0_8 a0.f_Links.length c_a0_8, .int .i64 a0.f_Bits, .slice A_a0_10 a0.f_Routers.length c_a0_10, .slice A_a0_11 a0.f_Verts.length c_a0_11] :: F))) (fun w11 HF12 => ?_)
          refine hTake 0 rfl (by kernel_rfl) (pThen (pBlock (pThen (pThen (pBlock (pThen (pThen pFn))))))) (fun w_ hS_ => fa32_2 rfl) HF12 rfl rfl ?_
          refine hTake 1 rfl (by kernel_rfl) (pThen (pBlock (pThen (pThen (pBlock (pThen (pThen pFn))))))) (fun w_ hS_ => ld rfl Try.underlying28 rfl (hS_.box (mem_c mem_h) rfl)) HF12 rfl rfl ?_
          refine hTake 2 rfl (by kernel_rfl) (pThen (pBlock (pThen (pThen (pBlock (pThen (pThen pFn))))))) (fun w_ hS_ => mv rfl) HF12 rfl rfl ?_
          replace H := chk H; obtain ⟨c25, H⟩ := H
          obtain ⟨g13, o11, _, rfl, rfl, q11⟩ := RdS.at_ hr_a0_8 c25 c22
          refine hTake 3 rfl (by kernel_rfl) (pThen (pBlock (pThen (pThen (pBlock (pThen (pThen pFn))))))) (fun w_ hS_ => ia rfl rfl Try.underlying28 ti57 c25 c22) HF12 rfl rfl ?_
          refine hTake 4 rfl (by kernel_rfl) (pThen (pBlock (pThen (pThen (pBlock (pThen (pThen pFn))))))) (fun w_ hS_ => ldA rfl ti57 rfl rfl (fun j v hj => hS_.cells ((sub_c (sub_c hX_a0_8))) (q11 j v hj))) HF12 rfl rfl ?_
          refine hTake 5 rfl (by kernel_rfl) (pThen (pBlock (pThen (pThen (pBlock (pThen (pThen pFn))))))) (fun w_ hS_ => fa32_2 rfl) HF12 rfl rfl ?_
          refine hTake 6 rfl (by kernel_rfl) (pThen (pBlock (pThen (pThen (pBlock (pThen (pThen pFn))))))) (fun w_ hS_ => ld rfl Try.underlying28 rfl (hS_.box (mem_h) rfl)) HF12 rfl rfl ?_
          refine hTake 7 rfl (by kernel_rfl) (pThen (pBlock (pThen (pThen (pBlock (pThen (pThen pFn))))))) (fun w_ hS_ => mv rfl) HF12 rfl rfl ?_
          replace H := chk H; obtain ⟨c26, H⟩ := H
          obtain ⟨g14, o12, _, rfl, rfl, q12⟩ := RdS.at_ hr_a1_8 c25 c26
          refine hTake 8 rfl (by kernel_rfl) (pThen (pBlock (pThen (pThen (pBlock (pThen (pThen pFn))))))) (fun w_ hS_ => ia rfl rfl Try.underlying28 ti57 c25 c26) HF12 rfl rfl ?_
          refine hTake 9 rfl (by kernel_rfl) (pThen (pBlock (pThen (pThen (pBlock (pThen (pThen pFn))))))) (fun w_ hS_ => ldA rfl ti57 rfl rfl (fun j v hj => hS_.cells ((sub_c (sub_c hX_a1_8))) (q12 j v hj))) HF12 rfl rfl ?_
          refine hTake 10 rfl (by kernel_rfl) (pThen (pBlock (pThen (pThen (pBlock (pThen (pThen pFn))))))) (fun w_ hS_ => bAggNeq (xs := [.int .i64 ((rd a0.f_Links s2).f_Kind), .int .i64 ((rd a0.f_Links s2).f_Id), .int .i64 ((rd a0.f_Links s2).f_Data), .int .i64 ((rd a0.f_Links s2).f_Cost)]) (ys := [.int .i64 ((rd a1.f_Links s2).f_Kind), .int .i64 ((rd a1.f_Links s2).f_Id), .int .i64 ((rd a1.f_Links s2).f_Data), .int .i64 ((rd a1.f_Links s2).f_Cost)]) (n := 2) rfl rfl eg57 (eqStruct Try.underlying57 sh57 (eqFcons (by decide) (pt1 Try.underlying3 rfl rfl) (pt1 Try.underlying3 rfl rfl) (eqInt Try.underlying3) (eqFcons (by decide) (pt1 Try.underlying3 rfl rfl) (pt1 Try.underlying3 rfl rfl) (eqInt Try.underlying3) (eqFcons (by decide) (pt1 Try.underlying3 rfl rfl) (pt1 Try.underlying3 rfl rfl) (eqInt Try.underlying3) (eqFcons (by decide) (pt1 Try.underlying3 rfl rfl) (pt1 Try.underlying3 rfl rfl) (eqInt Try.underlying3) eqFnil))))) rfl (eq_T_api_Link (rd a0.f_Links s2) (rd a1.f_Links s2))) HF12 rfl rfl ?_
          refine hEnd (by kernel_rfl) ?_
          refine kN (?_)
          refine hK20 _ _ ?_
          by_cases c27 : (rd a0.f_Links s2) = (rd a1.f_Links s2)
          · replace H := itT c27 H
            refine cSet (i := 69) rfl (nF c27) ?_
            refine cF rfl ?_
            refine cSkip ?_
            refine jN (kN (?_))
            refine hK19 _ _ ?_
            refine cRgn [] trivial ?_
            refine sL (mv rfl) rfl ?_
            refine sL (bAdd rfl rfl) rfl ?_
            refine sL (asg rfl) rfl ?_
            refine lEnd (K := fun _ _ => True) ?_
            refine kN (?_)
            exact ofEnv (fun a hE => ⟨_, (Option.some.inj H).symm, ⟨hE.keep (Keep.cons rfl (Keep.cons rfl (Keep.cons rfl (Keep.cons rfl (Keep.nil))))), HF12⟩⟩)
          · replace H := itF c27 H
            refine cSet (i := 69) rfl (nT c27) ?_
            refine cT rfl ?_
            refine cSeq (fun K21 hK21 => ?_)
            refine cRgn [] trivial ?_
            refine sL (asg rfl) rfl ?_
            refine lEnd (K := fun _ _ => True) ?_
            refine kN (?_)
            refine hK21 _ _ ?_
            refine cRet ?_
            have e_ := Hx1 _ (Option.some.inj H).symm
            subst e_
            replace H := Ho2
            obtain rfl := Option.some.inj H
            refine jR (kR (kR (jR (kR (kR (?_))))))
            refine ret1 rfl rfl ?_
            have HF13 := HF12.sublist (sl_dc (sl_dc (List.Sublist.refl _)))
            exact ⟨rfl, HF13⟩
        · replace H := itF c22 H
          refine cSet (i := 56) rfl (dF c22) ?_
          refine cF rfl ?_
          refine cExit ?_
          refine kX (kX (jX (kN (?_))))
          exact ofEnv (fun a hE => ⟨_, (Option.some.inj H).symm, ⟨hE.keep (Keep.cons rfl (Keep.cons rfl (Keep.cons rfl (Keep.cons rfl (Keep.nil))))), HF11⟩⟩)
      · rintro s2 a w12 rfl ⟨hE, HF14⟩
        replace H := Ho2
        refine go_k hE ?_
        refine kN (?_)
        refine hK5 _ _ ?_
        refine cSeq (fun K22 hK22 => ?_)
        refine cRgn [] trivial ?_
        refine sL (asg rfl) rfl ?_
        refine lEnd (K := fun _ _ => True) ?_
        refine kN (?_)
        refine hK22 _ _ ?_
        refine cRet ?_
        obtain rfl := Option.some.inj H
        refine ret1 rfl rfl ?_
        have HF15 := HF14.sublist (sl_dc (sl_dc (List.Sublist.refl _)))
        exact ⟨rfl, HF15⟩
/-! ### plenum/plenumref1.SameLsa (function 24) -/
abbrev f_plenumref1_SameLsa.R := Bool
noncomputable def f_plenumref1_SameLsa (a0 : T_api_Lsa) (a1 : T_api_Lsa) : Option f_plenumref1_SameLsa.R := (if a0.f_Head = a1.f_Head then ((f_plenumref1_Body a0 a1).bind fun t1 => some t1) else some false)
set_option maxHeartbeats 1000000 in
theorem f_plenumref1_SameLsa.ok {z w : World} {F G : Hp} (hG : G ⊆ F) {a0 : T_api_Lsa} {A_a0_8 : Option Addr} {c_a0_8 : Nat} {X_a0_8 : Hp} {A_a0_10 : Option Addr} {c_a0_10 : Nat} {X_a0_10 : Hp} {A_a0_11 : Option Addr} {c_a0_11 : Nat} {X_a0_11 : Hp} {a1 : T_api_Lsa} {A_a1_8 : Option Addr} {c_a1_8 : Nat} {X_a1_8 : Hp} {A_a1_10 : Option Addr} {c_a1_10 : Nat} {X_a1_10 : Hp} {A_a1_11 : Option Addr} {c_a1_11 : Nat} {X_a1_11 : Hp} {r : f_plenumref1_SameLsa.R} (H : f_plenumref1_SameLsa a0 a1 = some r) (HF : Fits z w F) (hX_a0_8 : X_a0_8 ⊆ F) (hr_a0_8 : RdS k_T_api_Link X_a0_8 A_a0_8 c_a0_8 a0.f_Links) (hX_a0_10 : X_a0_10 ⊆ F) (hr_a0_10 : RdS (kInt .i64) X_a0_10 A_a0_10 c_a0_10 a0.f_Routers) (hX_a0_11 : X_a0_11 ⊆ F) (hr_a0_11 : RdS k_T_api_Vert X_a0_11 A_a0_11 c_a0_11 a0.f_Verts) (hX_a1_8 : X_a1_8 ⊆ F) (hr_a1_8 : RdS k_T_api_Link X_a1_8 A_a1_8 c_a1_8 a1.f_Links) (hX_a1_10 : X_a1_10 ⊆ F) (hr_a1_10 : RdS (kInt .i64) X_a1_10 A_a1_10 c_a1_10 a1.f_Routers) (hX_a1_11 : X_a1_11 ⊆ F) (hr_a1_11 : RdS k_T_api_Vert X_a1_11 A_a1_11 c_a1_11 a1.f_Verts) :
    Calls Try.prog 24 [.agg [.int .i64 a0.f_Head.f_Age, .int .i64 a0.f_Head.f_Kind, .int .i64 a0.f_Head.f_Id, .int .i64 a0.f_Head.f_Adv, .int .i64 a0.f_Head.f_Seq, .int .i64 a0.f_Head.f_Sum, .int .i64 a0.f_Head.f_Len, .int .i64 a0.f_Flags, .slice A_a0_8 a0.f_Links.length c_a0_8, .int .i64 a0.f_Bits, .slice A_a0_10 a0.f_Routers.length c_a0_10, .slice A_a0_11 a0.f_Verts.length c_a0_11].toArray, .agg [.int .i64 a1.f_Head.f_Age, .int .i64 a1.f_Head.f_Kind, .int .i64 a1.f_Head.f_Id, .int .i64 a1.f_Head.f_Adv, .int .i64 a1.f_Head.f_Seq, .int .i64 a1.f_Head.f_Sum, .int .i64 a1.f_Head.f_Len, .int .i64 a1.f_Flags, .slice A_a1_8 a1.f_Links.length c_a1_8, .int .i64 a1.f_Bits, .slice A_a1_10 a1.f_Routers.length c_a1_10, .slice A_a1_11 a1.f_Verts.length c_a1_11].toArray].toArray w fun e w' => e = .returned (.bool r) ∧ Fits z w' F := by
  unfold f_plenumref1_SameLsa at H
  refine enter0 Try.func24 rfl Try.ntmps24 rfl (E := [(0, .agg [.int .i64 a0.f_Head.f_Age, .int .i64 a0.f_Head.f_Kind, .int .i64 a0.f_Head.f_Id, .int .i64 a0.f_Head.f_Adv, .int .i64 a0.f_Head.f_Seq, .int .i64 a0.f_Head.f_Sum, .int .i64 a0.f_Head.f_Len, .int .i64 a0.f_Flags, .slice A_a0_8 a0.f_Links.length c_a0_8, .int .i64 a0.f_Bits, .slice A_a0_10 a0.f_Routers.length c_a0_10, .slice A_a0_11 a0.f_Verts.length c_a0_11].toArray), (1, .agg [.int .i64 a1.f_Head.f_Age, .int .i64 a1.f_Head.f_Kind, .int .i64 a1.f_Head.f_Id, .int .i64 a1.f_Head.f_Adv, .int .i64 a1.f_Head.f_Seq, .int .i64 a1.f_Head.f_Sum, .int .i64 a1.f_Head.f_Len, .int .i64 a1.f_Flags, .slice A_a1_8 a1.f_Links.length c_a1_8, .int .i64 a1.f_Bits, .slice A_a1_10 a1.f_Routers.length c_a1_10, .slice A_a1_11 a1.f_Verts.length c_a1_11].toArray)]) rfl ?_
  refine cSeq (fun K1 hK1 => ?_)
  refine cRgn [] trivial ?_
  refine eW (oBox HF rfl) rfl ?_
  rintro _ w1 ⟨g1, rfl, HF1⟩
  refine eW (oBox HF1 rfl) rfl ?_
  rintro _ w2 ⟨g2, rfl, HF2⟩
  refine sL (asg rfl) rfl ?_
  refine lEnd (K := fun _ _ => True) ?_
  refine kN (?_)
  refine hK1 _ _ ?_
  refine cSeq (fun K2 hK2 => ?_)
  refine cRgn [(5, 10)] ⟨rfl, trivial⟩ ?_
  refine sL (fa32_0 rfl) rfl ?_
  refine sL (ldA (cs := [.int .i64 a0.f_Head.f_Age, .int .i64 a0.f_Head.f_Kind, .int .i64 a0.f_Head.f_Id, .int .i64 a0.f_Head.f_Adv, .int .i64 a0.f_Head.f_Seq, .int .i64 a0.f_Head.f_Sum, .int .i64 a0.f_Head.f_Len]) rfl ti27 rfl rfl (HF2.boxes (o := 0) (n := 7) (mem_c mem_h) rfl)) rfl ?_
  refine sL (fa32_0 rfl) rfl ?_
  refine sL (ldA (cs := [.int .i64 a1.f_Head.f_Age, .int .i64 a1.f_Head.f_Kind, .int .i64 a1.f_Head.f_Id, .int .i64 a1.f_Head.f_Adv, .int .i64 a1.f_Head.f_Seq, .int .i64 a1.f_Head.f_Sum, .int .i64 a1.f_Head.f_Len]) rfl ti27 rfl rfl (HF2.boxes (o := 0) (n := 7) (mem_h) rfl)) rfl ?_
  refine sL (bAggEql (xs := [.int .i64 a0.f_Head.f_Age, .int .i64 a0.f_Head.f_Kind, .int .i64 a0.f_Head.f_Id, .int .i64 a0.f_Head.f_Adv, .int .i64 a0.f_Head.f_Seq, .int .i64 a0.f_Head.f_Sum, .int .i64 a0.f_Head.f_Len]) (ys := [.int .i64 a1.f_Head.f_Age, .int .i64 a1.f_Head.f_Kind, .int .i64 a1.f_Head.f_Id, .int .i64 a1.f_Head.f_Adv, .int .i64 a1.f_Head.f_Seq, .int .i64 a1.f_Head.f_Sum, .int .i64 a1.f_Head.f_Len]) (n := 2) rfl rfl eg27 (eqStruct Try.underlying27 sh27 (eqFcons (by decide) (pt1 Try.underlying3 rfl rfl) (pt1 Try.underlying3 rfl rfl) (eqInt Try.underlying3) (eqFcons (by decide) (pt1 Try.underlying3 rfl rfl) (pt1 Try.underlying3 rfl rfl) (eqInt Try.underlying3) (eqFcons (by decide) (pt1 Try.underlying3 rfl rfl) (pt1 Try.underlying3 rfl rfl) (eqInt Try.underlying3) (eqFcons (by decide) (pt1 Try.underlying3 rfl rfl) (pt1 Try.underlying3 rfl rfl) (eqInt Try.underlying3) (eqFcons (by decide) (pt1 Try.underlying3 rfl rfl) (pt1 Try.underlying3 rfl rfl) (eqInt Try.underlying3) (eqFcons (by decide) (pt1 Try.underlying3 rfl rfl) (pt1 Try.underlying3 rfl rfl) (eqInt Try.underlying3) (eqFcons (by decide) (pt1 Try.underlying3 rfl rfl) (pt1 Try.underlying3 rfl rfl) (eqInt Try.underlying3) eqFnil)))))))) rfl (eq_T_api_Head a0.f_Head a1.f_Head)) rfl ?_
  refine sL (mv rfl) rfl ?_
  by_cases c1 : a0.f_Head = a1.f_Head
  · replace H := itT c1 H
    refine lSet (i := 10) rfl (dT c1) ?_
    refine sG rfl rfl (ldA (cs := [.int .i64 a0.f_Head.f_Age, .int .i64 a0.f_Head.f_Kind, .int .i64 a0.f_Head.f_Id, .int .i64 a0.f_Head.f_Adv, .int .i64 a0.f_Head.f_Seq, .int .i64 a0.f_Head.f_Sum, .int .i64 a0.f_Head.f_Len, .int .i64 a0.f_Flags, .slice A_a0_8 a0.f_Links.length c_a0_8, .int .i64 a0.f_Bits, .slice A_a0_10 a0.f_Routers.length c_a0_10, .slice A_a0_11 a0.f_Verts.length c_a0_11]) rfl ti32 rfl rfl (HF2.boxes (o := 0) (n := 12) (mem_c mem_h) rfl)) rfl ?_
    refine sG rfl rfl (ldA (cs := [.int .i64 a1.f_Head.f_Age, .int .i64 a1.f_Head.f_Kind, .int .i64 a1.f_Head.f_Id, .int .i64 a1.f_Head.f_Adv, .int .i64 a1.f_Head.f_Seq, .int .i64 a1.f_Head.f_Sum, .int .i64 a1.f_Head.f_Len, .int .i64 a1.f_Flags, .slice A_a1_8 a1.f_Links.length c_a1_8, .int .i64 a1.f_Bits, .slice A_a1_10 a1.f_Routers.length c_a1_10, .slice A_a1_11 a1.f_Verts.length c_a1_11]) rfl ti32 rfl rfl (HF2.boxes (o := 0) (n := 12) (mem_h) rfl)) rfl ?_
    replace H := bnd H; obtain ⟨t1, J1, H⟩ := H
    refine eCallG rfl rfl isf35 rfl rfl rfl (f_plenumref1_Body.ok (a0 := a0) (a1 := a1) (sub_c (sub_c hG)) J1 HF2 (sub_c (sub_c hX_a0_8)) hr_a0_8 (sub_c (sub_c hX_a0_10)) hr_a0_10 (sub_c (sub_c hX_a0_11)) hr_a0_11 (sub_c (sub_c hX_a1_8)) hr_a1_8 (sub_c (sub_c hX_a1_10)) hr_a1_10 (sub_c (sub_c hX_a1_11)) hr_a1_11) ?_
    rintro _ w3 ⟨rfl, HF3⟩
    refine ⟨_, rfl, ?_⟩
    refine sL (pkT rfl rfl) rfl ?_
    refine sL (asg rfl) rfl ?_
    refine lEnd (K := fun _ _ => True) ?_
    refine kN (?_)
    refine hK2 _ _ ?_
    refine cRet ?_
    obtain rfl := Option.some.inj H
    refine ret1 rfl rfl ?_
    have HF4 := HF3.sublist (sl_dc (sl_dc (List.Sublist.refl _)))
    exact ⟨rfl, HF4⟩
  · replace H := itF c1 H
    refine lSet (i := 10) rfl (dF c1) ?_
    refine sN rfl rfl rfl rfl ?_
    refine sN rfl rfl rfl rfl ?_
    refine sN rfl rfl rfl rfl ?_
    refine sL (pkF rfl rfl) rfl ?_
    refine sL (asg rfl) rfl ?_
    refine lEnd (K := fun _ _ => True) ?_
    refine kN (?_)
    refine hK2 _ _ ?_
    refine cRet ?_
    obtain rfl := Option.some.inj H
    refine ret1 rfl rfl ?_
    have HF5 := HF2.sublist (sl_dc (sl_dc (List.Sublist.refl _)))
    exact ⟨rfl, HF5⟩
/-! ### plenum/plenumref1.Lsas (function 9) -/
abbrev f_plenumref1_Lsas.R := Bool
noncomputable def f_plenumref1_Lsas.b0 (a0 : List T_api_Lsa) (a1 : List T_api_Lsa) (s1 : Int) : Option (Sum (Int) (Sum (Int) f_plenumref1_Lsas.R)) := (if s1 < (a0.length : Int) then (if 0 ≤ s1 then (if s1 < (a1.length : Int) then ((f_plenumref1_SameLsa (rd a0 s1) (rd a1 s1)).bind fun t6 => (if t6 = true then some (.inl (IntKind.i64.wrap (s1 + 1))) else some (.inr (.inr false)))) else none) else none) else some (.inr (.inl s1)))
noncomputable def f_plenumref1_Lsas (a0 : List T_api_Lsa) (a1 : List T_api_Lsa) : Option f_plenumref1_Lsas.R := (if (a0.length : Int) = (a1.length : Int) then ((loopO (f_plenumref1_Lsas.b0 a0 a1) 0).bind fun y1 => match y1 with | .inl s1 => some true | .inr r_ => some r_) else some false)
set_option maxHeartbeats 1000000 in
theorem f_plenumref1_Lsas.ok {z w : World} {F G : Hp} (hG : G ⊆ F) {a0 : List T_api_Lsa} {A_a0 : Option Addr} {c_a0 : Nat} {X_a0 : Hp} {a1 : List T_api_Lsa} {A_a1 : Option Addr} {c_a1 : Nat} {X_a1 : Hp} {r : f_plenumref1_Lsas.R} (H : f_plenumref1_Lsas a0 a1 = some r) (HF : Fits z w F) (hX_a0 : X_a0 ⊆ F) (hr_a0 : RdS (kShr G k_T_api_Lsa) X_a0 A_a0 c_a0 a0) (hX_a1 : X_a1 ⊆ F) (hr_a1 : RdS (kShr G k_T_api_Lsa) X_a1 A_a1 c_a1 a1) :
    Calls Try.prog 9 [.slice A_a0 a0.length c_a0, .slice A_a1 a1.length c_a1].toArray w fun e w' => e = .returned (.bool r) ∧ Fits z w' F := by
  unfold f_plenumref1_Lsas at H
  refine enter0 Try.func9 rfl Try.ntmps9 rfl (E := [(0, .slice A_a0 a0.length c_a0), (1, .slice A_a1 a1.length c_a1)]) rfl ?_
  refine cSeq (fun K1 hK1 => ?_)
  refine cRgn [] trivial ?_
  refine sL (asg rfl) rfl ?_
  refine lEnd (K := fun _ _ => True) ?_
  refine kN (?_)
  refine hK1 _ _ ?_
  refine cSeq (fun K2 hK2 => ?_)
  refine cSeq (fun K3 hK3 => ?_)
  refine cRgn [] trivial ?_
  refine sL (mv rfl) rfl ?_
  refine sL (lnS rfl Try.underlying22) rfl ?_
  refine sL (mv rfl) rfl ?_
  refine sL (lnS rfl Try.underlying22) rfl ?_
  refine sL (bNeq rfl rfl) rfl ?_
  refine lEnd (K := fun _ _ => True) ?_
  refine kN (?_)
  refine hK3 _ _ ?_
  by_cases c1 : (a0.length : Int) = (a1.length : Int)
  · replace H := itT c1 H
    refine cSet (i := 10) rfl (nF c1) ?_
    refine cF rfl ?_
    refine cSkip ?_
    refine kN (?_)
    refine hK2 _ _ ?_
    refine cSeq (fun K4 hK4 => ?_)
    refine cSeq (fun K5 hK5 => ?_)
    refine cRgn [] trivial ?_
    refine sL (asg rfl) rfl ?_
    refine lEnd (K := fun _ _ => True) ?_
    refine kN (?_)
    refine hK5 _ _ ?_
    replace H := bnd H; obtain ⟨y1, J7, Ho1⟩ := H
    refine cLoopB (f_plenumref1_Lsas.b0 a0 a1) (fun (s1 : Int) a w => Env 27 [(0, .slice A_a0 a0.length c_a0), (1, .slice A_a1 a1.length c_a1), (4, .bool false), (5, .int .i64 s1)] a ∧ Fits z w F) J7 (fun a hE => ⟨hE.keep (Keep.cons rfl (Keep.cons rfl (Keep.cons rfl (Keep.cons rfl (Keep.nil))))), HF⟩) ?_ ?_
    · rintro s1 a w7 y2 ⟨hE, HF7⟩ H Hx1
      refine go_ hE ?_
      refine cSeq (fun K16 hK16 => ?_)
      refine cSeq (fun K17 hK17 => ?_)
      refine cRgn [] trivial ?_
      refine sL (mv rfl) rfl ?_
      refine sL (mv rfl) rfl ?_
      refine sL (lnS rfl Try.underlying22) rfl ?_
      refine sL (bLss rfl rfl) rfl ?_
      refine lEnd (K := fun _ _ => True) ?_
      refine kN (?_)
      refine hK17 _ _ ?_
      by_cases c36 : s1 < (a0.length : Int)
      · replace H := itT c36 H
        refine cSet (i := 14) rfl (dT c36) ?_
        refine cT rfl ?_
        refine cSkip ?_
        refine kN (?_)
        refine hK16 _ _ ?_
        refine cSeq (fun K18 hK18 => ?_)
        refine cBlock ?_
        refine cSeq (fun K19 hK19 => ?_)
        refine cDraw mo_ HF7 rfl (fun w => Fits z w F) (fun w9 HF9 => ?_)
        refine hTake 0 rfl (by kernel_rfl) (pThen (pBlock (pThen (pThen (pBlock (pThen (pThen pFn))))))) (fun w_ hS_ => mv rfl) HF9 rfl rfl ?_
        refine hTake 1 rfl (by kernel_rfl) (pThen (pBlock (pThen (pThen (pBlock (pThen (pThen pFn))))))) (fun w_ hS_ => mv rfl) HF9 rfl rfl ?_
        replace H := chk H; obtain ⟨c45, H⟩ := H
        obtain ⟨g11, o11, e22, rfl, hk11, q11⟩ := RdS.at_ hr_a0 c45 c36
        obtain ⟨A31, c46, A32, c47, A33, c48, rfl, hr31, hr32, hr33⟩ := rd_T_api_Lsa hk11
        refine hTake 2 rfl (by kernel_rfl) (pThen (pBlock (pThen (pThen (pBlock (pThen (pThen pFn))))))) (fun w_ hS_ => ia rfl rfl Try.underlying22 ti32 c45 c36) HF9 rfl rfl ?_
        refine hTake 3 rfl (by kernel_rfl) (pThen (pBlock (pThen (pThen (pBlock (pThen (pThen pFn))))))) (fun w_ hS_ => ldA rfl ti32 rfl rfl (fun j v hj => hS_.cells (hX_a0) (q11 j v hj))) HF9 rfl rfl ?_
        refine hTake 4 rfl (by kernel_rfl) (pThen (pBlock (pThen (pThen (pBlock (pThen (pThen pFn))))))) (fun w_ hS_ => mv rfl) HF9 rfl rfl ?_
        refine hTake 5 rfl (by kernel_rfl) (pThen (pBlock (pThen (pThen (pBlock (pThen (pThen pFn))))))) (fun w_ hS_ => mv rfl) HF9 rfl rfl ?_
        replace H := chk H; obtain ⟨c49, H⟩ := H
        obtain ⟨g12, o12, e24, rfl, hk12, q12⟩ := RdS.at_ hr_a1 c45 c49
        obtain ⟨A34, c50, A35, c51, A36, c52, rfl, hr34, hr35, hr36⟩ := rd_T_api_Lsa hk12
        refine hTake 6 rfl (by kernel_rfl) (pThen (pBlock (pThen (pThen (pBlock (pThen (pThen pFn))))))) (fun w_ hS_ => ia rfl rfl Try.underlying22 ti32 c45 c49) HF9 rfl rfl ?_
        refine hTake 7 rfl (by kernel_rfl) (pThen (pBlock (pThen (pThen (pBlock (pThen (pThen pFn))))))) (fun w_ hS_ => ldA rfl ti32 rfl rfl (fun j v hj => hS_.cells (hX_a1) (q12 j v hj))) HF9 rfl rfl ?_
        refine h1 8 (by kernel_rfl) rfl ?_
        replace H := bnd H; obtain ⟨t6, J6, H⟩ := H
        refine qCall rfl gd0 isf24 rfl rfl rfl (f_plenumref1_SameLsa.ok (a0 := (rd a0 s1)) (a1 := (rd a1 s1)) hG J6 HF9 hG hr31 hG hr32 hG hr33 hG hr34 hG hr35 hG hr36) ?_
        rintro _ w10 ⟨rfl, HF10⟩
        refine ⟨_, rfl, HF10, ?_⟩
        refine hTake 9 rfl (by kernel_rfl) (pThen (pBlock (pThen (pThen (pBlock (pThen (pThen pFn))))))) (fun w_ hS_ => uNot rfl) HF10 rfl rfl ?_
        refine hEnd (by kernel_rfl) ?_
        refine kN (?_)
        refine hK19 _ _ ?_
        by_cases c53 : t6 = true
        · replace H := itT c53 H
          refine cSet (i := 26) rfl (wF c53) ?_
          refine cF rfl ?_
          refine cSkip ?_
          refine jN (kN (?_))
          refine hK18 _ _ ?_
          refine cRgn [] trivial ?_
          refine sL (mv rfl) rfl ?_
          refine sL (bAdd rfl rfl) rfl ?_
          refine sL (asg rfl) rfl ?_
          refine lEnd (K := fun _ _ => True) ?_
          refine kN (?_)
          exact ofEnv (fun a hE => ⟨_, (Option.some.inj H).symm, ⟨hE.keep (Keep.cons rfl (Keep.cons rfl (Keep.cons rfl (Keep.cons rfl (Keep.nil))))), HF10⟩⟩)
        · replace H := itF c53 H
          refine cSet (i := 26) rfl (wT c53) ?_
          refine cT rfl ?_
          refine cSeq (fun K20 hK20 => ?_)
          refine cRgn [] trivial ?_
          refine sL (asg rfl) rfl ?_
          refine lEnd (K := fun _ _ => True) ?_
          refine kN (?_)
          refine hK20 _ _ ?_
          refine cRet ?_
          have e_ := Hx1 _ (Option.some.inj H).symm
          subst e_
          replace H := Ho1
          obtain rfl := Option.some.inj H
          refine jR (kR (kR (jR (kR (kR (?_))))))
          refine ret1 rfl rfl ?_
          exact ⟨rfl, HF10⟩
      · replace H := itF c36 H
        refine cSet (i := 14) rfl (dF c36) ?_
        refine cF rfl ?_
        refine cExit ?_
        refine kX (kX (jX (kN (?_))))
        exact ofEnv (fun a hE => ⟨_, (Option.some.inj H).symm, ⟨hE.keep (Keep.cons rfl (Keep.cons rfl (Keep.cons rfl (Keep.cons rfl (Keep.nil))))), HF7⟩⟩)
    · rintro s1 a w11 rfl ⟨hE, HF11⟩
      replace H := Ho1
      refine go_k hE ?_
      refine kN (?_)
      refine hK4 _ _ ?_
      refine cSeq (fun K21 hK21 => ?_)
      refine cRgn [] trivial ?_
      refine sL (asg rfl) rfl ?_
      refine lEnd (K := fun _ _ => True) ?_
      refine kN (?_)
      refine hK21 _ _ ?_
      refine cRet ?_
      obtain rfl := Option.some.inj H
      refine ret1 rfl rfl ?_
      exact ⟨rfl, HF11⟩
  · replace H := itF c1 H
    refine cSet (i := 10) rfl (nT c1) ?_
    refine cT rfl ?_
    refine cSeq (fun K22 hK22 => ?_)
    refine cRgn [] trivial ?_
    refine sL (asg rfl) rfl ?_
    refine lEnd (K := fun _ _ => True) ?_
    refine kN (?_)
    refine hK22 _ _ ?_
    refine cRet ?_
    obtain rfl := Option.some.inj H
    refine kR (?_)
    refine ret1 rfl rfl ?_
    exact ⟨rfl, HF⟩
/-! ### plenum/plenumref1.Heads (function 10) -/
abbrev f_plenumref1_Heads.R := Bool
noncomputable def f_plenumref1_Heads.b0 (a0 : List T_api_Head) (a1 : List T_api_Head) (s1 : Int) : Option (Sum (Int) (Sum (Int) f_plenumref1_Heads.R)) := (if s1 < (a0.length : Int) then (if 0 ≤ s1 then (if s1 < (a1.length : Int) then (if (rd a0 s1) = (rd a1 s1) then some (.inl (IntKind.i64.wrap (s1 + 1))) else some (.inr (.inr false))) else none) else none) else some (.inr (.inl s1)))
noncomputable def f_plenumref1_Heads (a0 : List T_api_Head) (a1 : List T_api_Head) : Option f_plenumref1_Heads.R := (if (a0.length : Int) = (a1.length : Int) then ((loopO (f_plenumref1_Heads.b0 a0 a1) 0).bind fun y1 => match y1 with | .inl s1 => some true | .inr r_ => some r_) else some false)
set_option maxHeartbeats 1000000 in
theorem f_plenumref1_Heads.ok {z w : World} {F G : Hp} (hG : G ⊆ F) {a0 : List T_api_Head} {A_a0 : Option Addr} {c_a0 : Nat} {X_a0 : Hp} {a1 : List T_api_Head} {A_a1 : Option Addr} {c_a1 : Nat} {X_a1 : Hp} {r : f_plenumref1_Heads.R} (H : f_plenumref1_Heads a0 a1 = some r) (HF : Fits z w F) (hX_a0 : X_a0 ⊆ F) (hr_a0 : RdS k_T_api_Head X_a0 A_a0 c_a0 a0) (hX_a1 : X_a1 ⊆ F) (hr_a1 : RdS k_T_api_Head X_a1 A_a1 c_a1 a1) :
    Calls Try.prog 10 [.slice A_a0 a0.length c_a0, .slice A_a1 a1.length c_a1].toArray w fun e w' => e = .returned (.bool r) ∧ Fits z w' F := by
  unfold f_plenumref1_Heads at H
  refine enter0 Try.func10 rfl Try.ntmps10 rfl (E := [(0, .slice A_a0 a0.length c_a0), (1, .slice A_a1 a1.length c_a1)]) rfl ?_
  refine cSeq (fun K1 hK1 => ?_)
  refine cRgn [] trivial ?_
  refine sL (asg rfl) rfl ?_
  refine lEnd (K := fun _ _ => True) ?_
  refine kN (?_)
  refine hK1 _ _ ?_
  refine cSeq (fun K2 hK2 => ?_)
  refine cSeq (fun K3 hK3 => ?_)
  refine cRgn [] trivial ?_
  refine sL (mv rfl) rfl ?_
  refine sL (lnS rfl Try.underlying23) rfl ?_
  refine sL (mv rfl) rfl ?_
  refine sL (lnS rfl Try.underlying23) rfl ?_
  refine sL (bNeq rfl rfl) rfl ?_
  refine lEnd (K := fun _ _ => True) ?_
  refine kN (?_)
  refine hK3 _ _ ?_
  by_cases c1 : (a0.length : Int) = (a1.length : Int)
  · replace H := itT c1 H
    refine cSet (i := 10) rfl (nF c1) ?_
    refine cF rfl ?_
    refine cSkip ?_
    refine kN (?_)
    refine hK2 _ _ ?_
    refine cSeq (fun K4 hK4 => ?_)
    refine cSeq (fun K5 hK5 => ?_)
    refine cRgn [] trivial ?_
    refine sL (asg rfl) rfl ?_
    refine lEnd (K := fun _ _ => True) ?_
    refine kN (?_)
    refine hK5 _ _ ?_
    replace H := bnd H; obtain ⟨y1, J1, Ho1⟩ := H
    refine cLoopB (f_plenumref1_Heads.b0 a0 a1) (fun (s1 : Int) a w => Env 26 [(0, .slice A_a0 a0.length c_a0), (1, .slice A_a1 a1.length c_a1), (4, .bool false), (5, .int .i64 s1)] a ∧ Fits z w F) J1 (fun a hE => ⟨hE.keep (Keep.cons rfl (Keep.cons rfl (Keep.cons rfl (Keep.cons rfl (Keep.nil))))), HF⟩) ?_ ?_
    · rintro s1 a w3 y2 ⟨hE, HF3⟩ H Hx1
      refine go_ hE ?_
      refine cSeq (fun K16 hK16 => ?_)
      refine cSeq (fun K17 hK17 => ?_)
      refine cRgn [] trivial ?_
      refine sL (mv rfl) rfl ?_
      refine sL (mv rfl) rfl ?_
      refine sL (lnS rfl Try.underlying23) rfl ?_
      refine sL (bLss rfl rfl) rfl ?_
      refine lEnd (K := fun _ _ => True) ?_
      refine kN (?_)
      refine hK17 _ _ ?_
      by_cases c12 : s1 < (a0.length : Int)
      · replace H := itT c12 H
        refine cSet (i := 14) rfl (dT c12) ?_
        refine cT rfl ?_
        refine cSkip ?_
        refine kN (?_)
        refine hK16 _ _ ?_
        refine cSeq (fun K18 hK18 => ?_)
        refine cBlock ?_
        refine cSeq (fun K19 hK19 => ?_)
        refine cDraw mo_ HF3 rfl (fun w => Fits z w F) (fun w4 HF4 => ?_)
        refine hTake 0 rfl (by kernel_rfl) (pThen (pBlock (pThen (pThen (pBlock (pThen (pThen pFn))))))) (fun w_ hS_ => mv rfl) HF4 rfl rfl ?_
        refine hTake 1 rfl (by kernel_rfl) (pThen (pBlock (pThen (pThen (pBlock (pThen (pThen pFn))))))) (fun w_ hS_ => mv rfl) HF4 rfl rfl ?_
        replace H := chk H; obtain ⟨c15, H⟩ := H
        obtain ⟨g11, o11, _, rfl, rfl, q11⟩ := RdS.at_ hr_a0 c15 c12
        refine hTake 2 rfl (by kernel_rfl) (pThen (pBlock (pThen (pThen (pBlock (pThen (pThen pFn))))))) (fun w_ hS_ => ia rfl rfl Try.underlying23 ti27 c15 c12) HF4 rfl rfl ?_
        refine hTake 3 rfl (by kernel_rfl) (pThen (pBlock (pThen (pThen (pBlock (pThen (pThen pFn))))))) (fun w_ hS_ => ldA rfl ti27 rfl rfl (fun j v hj => hS_.cells (hX_a0) (q11 j v hj))) HF4 rfl rfl ?_
        refine hTake 4 rfl (by kernel_rfl) (pThen (pBlock (pThen (pThen (pBlock (pThen (pThen pFn))))))) (fun w_ hS_ => mv rfl) HF4 rfl rfl ?_
        refine hTake 5 rfl (by kernel_rfl) (pThen (pBlock (pThen (pThen (pBlock (pThen (pThen pFn))))))) (fun w_ hS_ => mv rfl) HF4 rfl rfl ?_
        replace H := chk H; obtain ⟨c16, H⟩ := H
        obtain ⟨g12, o12, _, rfl, rfl, q12⟩ := RdS.at_ hr_a1 c15 c16
        refine hTake 6 rfl (by kernel_rfl) (pThen (pBlock (pThen (pThen (pBlock (pThen (pThen pFn))))))) (fun w_ hS_ => ia rfl rfl Try.underlying23 ti27 c15 c16) HF4 rfl rfl ?_
        refine hTake 7 rfl (by kernel_rfl) (pThen (pBlock (pThen (pThen (pBlock (pThen (pThen pFn))))))) (fun w_ hS_ => ldA rfl ti27 rfl rfl (fun j v hj => hS_.cells (hX_a1) (q12 j v hj))) HF4 rfl rfl ?_
        refine hTake 8 rfl (by kernel_rfl) (pThen (pBlock (pThen (pThen (pBlock (pThen (pThen pFn))))))) (fun w_ hS_ => bAggNeq (xs := [.int .i64 ((rd a0 s1).f_Age), .int .i64 ((rd a0 s1).f_Kind), .int .i64 ((rd a0 s1).f_Id), .int .i64 ((rd a0 s1).f_Adv), .int .i64 ((rd a0 s1).f_Seq), .int .i64 ((rd a0 s1).f_Sum), .int .i64 ((rd a0 s1).f_Len)]) (ys := [.int .i64 ((rd a1 s1).f_Age), .int .i64 ((rd a1 s1).f_Kind), .int .i64 ((rd a1 s1).f_Id), .int .i64 ((rd a1 s1).f_Adv), .int .i64 ((rd a1 s1).f_Seq), .int .i64 ((rd a1 s1).f_Sum), .int .i64 ((rd a1 s1).f_Len)]) (n := 2) rfl rfl eg27 (eqStruct Try.underlying27 sh27 (eqFcons (by decide) (pt1 Try.underlying3 rfl rfl) (pt1 Try.underlying3 rfl rfl) (eqInt Try.underlying3) (eqFcons (by decide) (pt1 Try.underlying3 rfl rfl) (pt1 Try.underlying3 rfl rfl) (eqInt Try.underlying3) (eqFcons (by decide) (pt1 Try.underlying3 rfl rfl) (pt1 Try.underlying3 rfl rfl) (eqInt Try.underlying3) (eqFcons (by decide) (pt1 Try.underlying3 rfl rfl) (pt1 Try.underlying3 rfl rfl) (eqInt Try.underlying3) (eqFcons (by decide) (pt1 Try.underlying3 rfl rfl) (pt1 Try.underlying3 rfl rfl) (eqInt Try.underlying3) (eqFcons (by decide) (pt1 Try.underlying3 rfl rfl) (pt1 Try.underlying3 rfl rfl) (eqInt Try.underlying3) (eqFcons (by decide) (pt1 Try.underlying3 rfl rfl) (pt1 Try.underlying3 rfl rfl) (eqInt Try.underlying3) eqFnil)))))))) rfl (eq_T_api_Head (rd a0 s1) (rd a1 s1))) HF4 rfl rfl ?_
        refine hEnd (by kernel_rfl) ?_
        refine kN (?_)
        refine hK19 _ _ ?_
        by_cases c17 : (rd a0 s1) = (rd a1 s1)
        · replace H := itT c17 H
          refine cSet (i := 25) rfl (nF c17) ?_
          refine cF rfl ?_
          refine cSkip ?_
          refine jN (kN (?_))
          refine hK18 _ _ ?_
          refine cRgn [] trivial ?_
          refine sL (mv rfl) rfl ?_
          refine sL (bAdd rfl rfl) rfl ?_
          refine sL (asg rfl) rfl ?_
          refine lEnd (K := fun _ _ => True) ?_
          refine kN (?_)
          exact ofEnv (fun a hE => ⟨_, (Option.some.inj H).symm, ⟨hE.keep (Keep.cons rfl (Keep.cons rfl (Keep.cons rfl (Keep.cons rfl (Keep.nil))))), HF4⟩⟩)
        · replace H := itF c17 H
          refine cSet (i := 25) rfl (nT c17) ?_
          refine cT rfl ?_
          refine cSeq (fun K20 hK20 => ?_)
          refine cRgn [] trivial ?_
          refine sL (asg rfl) rfl ?_
          refine lEnd (K := fun _ _ => True) ?_
          refine kN (?_)
          refine hK20 _ _ ?_
          refine cRet ?_
          have e_ := Hx1 _ (Option.some.inj H).symm
          subst e_
          replace H := Ho1
          obtain rfl := Option.some.inj H
          refine jR (kR (kR (jR (kR (kR (?_))))))
          refine ret1 rfl rfl ?_
          exact ⟨rfl, HF4⟩
      · replace H := itF c12 H
        refine cSet (i := 14) rfl (dF c12) ?_
        refine cF rfl ?_
        refine cExit ?_
        refine kX (kX (jX (kN (?_))))
        exact ofEnv (fun a hE => ⟨_, (Option.some.inj H).symm, ⟨hE.keep (Keep.cons rfl (Keep.cons rfl (Keep.cons rfl (Keep.cons rfl (Keep.nil))))), HF3⟩⟩)
    · rintro s1 a w5 rfl ⟨hE, HF5⟩
      replace H := Ho1
      refine go_k hE ?_
      refine kN (?_)
      refine hK4 _ _ ?_
      refine cSeq (fun K21 hK21 => ?_)
      refine cRgn [] trivial ?_
      refine sL (asg rfl) rfl ?_
      refine lEnd (K := fun _ _ => True) ?_
      refine kN (?_)
      refine hK21 _ _ ?_
      refine cRet ?_
      obtain rfl := Option.some.inj H
      refine ret1 rfl rfl ?_
      exact ⟨rfl, HF5⟩
  · replace H := itF c1 H
    refine cSet (i := 10) rfl (nT c1) ?_
    refine cT rfl ?_
    refine cSeq (fun K22 hK22 => ?_)
    refine cRgn [] trivial ?_
    refine sL (asg rfl) rfl ?_
    refine lEnd (K := fun _ _ => True) ?_
    refine kN (?_)
    refine hK22 _ _ ?_
    refine cRet ?_
    obtain rfl := Option.some.inj H
    refine kR (?_)
    refine ret1 rfl rfl ?_
    exact ⟨rfl, HF⟩
/-! ### plenum/plenumlaw14.AnswerLots (function 3) -/
abbrev f_plenumlaw14_AnswerLots.R := Bool
noncomputable def f_plenumlaw14_AnswerLots.b0 (a1 : List T_api_Lsa) (s2 : Int) : Option (Sum (Int) (Sum (Int) f_plenumlaw14_AnswerLots.R)) := (if s2 < (a1.length : Int) then (if 0 ≤ s2 then ((f_plenumlaw5_Great (rd a1 s2)).bind fun t6 => (if t6 = true then ((f_plenumlaw14_awake).bind fun t7 => some (.inr (.inr t7))) else some (.inl (IntKind.i64.wrap (s2 + 1))))) else none) else some (.inr (.inl s2)))
noncomputable def f_plenumlaw14_AnswerLots.b1 (a0 : Int) (t8 : List T_api_Packet) (s3 : (List T_api_Lsa) × Int) : Option (Sum ((List T_api_Lsa) × Int) (Sum ((List T_api_Lsa) × Int) f_plenumlaw14_AnswerLots.R)) := (if s3.2 < (t8.length : Int) then (if 0 ≤ s3.2 then (if ((rd t8 s3.2).f_Kind) = 4 then (if ((rd t8 s3.2).f_Router) = a0 then (if (((rd t8 s3.2).f_Lsas).length : Int) = 0 then some (.inr (.inr false)) else (if 4 < (((rd t8 s3.2).f_Lsas).length : Int) then some (.inr (.inr false)) else (if s3.2 < (IntKind.i64.wrap ((t8.length : Int) - 1)) then (if (((rd t8 s3.2).f_Lsas).length : Int) = 4 then (if 0 < (((rd t8 s3.2).f_Heads).length : Int) then some (.inr (.inr false)) else (if (s3.1.length + ((rd t8 s3.2).f_Lsas).length) * 144 ≤ 140737488355328 then some (.inl ((s3.1 ++ (rd t8 s3.2).f_Lsas), IntKind.i64.wrap (s3.2 + 1))) else none)) else some (.inr (.inr false))) else (if 0 < (((rd t8 s3.2).f_Heads).length : Int) then some (.inr (.inr false)) else (if (s3.1.length + ((rd t8 s3.2).f_Lsas).length) * 144 ≤ 140737488355328 then some (.inl ((s3.1 ++ (rd t8 s3.2).f_Lsas), IntKind.i64.wrap (s3.2 + 1))) else none))))) else some (.inr (.inr false))) else some (.inr (.inr false))) else none) else some (.inr (.inl (s3.1, s3.2))))
noncomputable def f_plenumlaw14_AnswerLots.b2 (a0 : Int) (t9 : List T_api_Packet) (s4 : (List T_api_Head) × Int) : Option (Sum ((List T_api_Head) × Int) (Sum ((List T_api_Head) × Int) f_plenumlaw14_AnswerLots.R)) := (if s4.2 < (t9.length : Int) then (if 0 ≤ s4.2 then (if ((rd t9 s4.2).f_Kind) = 5 then (if ((rd t9 s4.2).f_Router) = a0 then (if (((rd t9 s4.2).f_Heads).length : Int) = 0 then some (.inr (.inr false)) else (if 8 < (((rd t9 s4.2).f_Heads).length : Int) then some (.inr (.inr false)) else (if s4.2 < (IntKind.i64.wrap ((t9.length : Int) - 1)) then (if (((rd t9 s4.2).f_Heads).length : Int) = 8 then (if 0 < (((rd t9 s4.2).f_Lsas).length : Int) then some (.inr (.inr false)) else (if (s4.1.length + ((rd t9 s4.2).f_Heads).length) * 56 ≤ 140737488355328 then some (.inl ((s4.1 ++ (rd t9 s4.2).f_Heads), IntKind.i64.wrap (s4.2 + 1))) else none)) else some (.inr (.inr false))) else (if 0 < (((rd t9 s4.2).f_Lsas).length : Int) then some (.inr (.inr false)) else (if (s4.1.length + ((rd t9 s4.2).f_Heads).length) * 56 ≤ 140737488355328 then some (.inl ((s4.1 ++ (rd t9 s4.2).f_Heads), IntKind.i64.wrap (s4.2 + 1))) else none))))) else some (.inr (.inr false))) else some (.inr (.inr false))) else none) else some (.inr (.inl (s4.1, s4.2))))
noncomputable def f_plenumlaw14_AnswerLots (a0 : Int) (a1 : List T_api_Lsa) (a2 : List T_api_Head) : Option f_plenumlaw14_AnswerLots.R := ((((if 40 < (a1.length : Int) then some (.inl true) else some (.inl (decide (60 < (a2.length : Int))))) : Option (Sum (Bool) f_plenumlaw14_AnswerLots.R))).bind fun y1 => match y1 with | .inl s1 => (if s1 = true then ((f_plenumlaw14_awake).bind fun t1 => some t1) else ((loopO (f_plenumlaw14_AnswerLots.b0 a1) 0).bind fun y2 => match y2 with | .inl s2 => ((f_answer_Updates a0 a1).bind fun t8 => ((f_answer_Acks a0 a2).bind fun t9 => ((loopO (f_plenumlaw14_AnswerLots.b1 a0 t8) ([], 0)).bind fun y4 => match y4 with | .inl s3 => ((loopO (f_plenumlaw14_AnswerLots.b2 a0 t9) ([], 0)).bind fun y6 => match y6 with | .inl s4 => ((f_plenumref1_Lsas s3.1 a1).bind fun t10 => (if t10 = true then ((f_plenumref1_Heads s4.1 a2).bind fun t11 => (if t11 = true then ((f_plenumlaw14_awake).bind fun t12 => some t12) else some false)) else some false)) | .inr r_ => some r_) | .inr r_ => some r_))) | .inr r_ => some r_)) | .inr r_ => some r_)
set_option maxHeartbeats 1000000 in
theorem f_plenumlaw14_AnswerLots.ok {z w : World} {F G : Hp} (hG : G ⊆ F) {a0 : Int} {a1 : List T_api_Lsa} {A_a1 : Option Addr} {c_a1 : Nat} {X_a1 : Hp} {a2 : List T_api_Head} {A_a2 : Option Addr} {c_a2 : Nat} {X_a2 : Hp} {r : f_plenumlaw14_AnswerLots.R} (H : f_plenumlaw14_AnswerLots a0 a1 a2 = some r) (HF : Fits z w F) (hX_a1 : X_a1 ⊆ F) (hr_a1 : RdS (kShr G k_T_api_Lsa) X_a1 A_a1 c_a1 a1) (hX_a2 : X_a2 ⊆ F) (hr_a2 : RdS k_T_api_Head X_a2 A_a2 c_a2 a2) :
    Calls Try.prog 3 [.int .i64 a0, .slice A_a1 a1.length c_a1, .slice A_a2 a2.length c_a2].toArray w fun e w' => e = .returned (.bool r) ∧ Fits z w' F := by
  unfold f_plenumlaw14_AnswerLots at H
  refine enter0 Try.func3 rfl Try.ntmps3 rfl (E := [(0, .int .i64 a0), (1, .slice A_a1 a1.length c_a1), (2, .slice A_a2 a2.length c_a2)]) rfl ?_
  refine cSeq (fun K1 hK1 => ?_)
  refine cRgn [] trivial ?_
  refine sL (asg rfl) rfl ?_
  refine lEnd (K := fun _ _ => True) ?_
  refine kN (?_)
  refine hK1 _ _ ?_
  refine cSeq (fun K2 hK2 => ?_)
  refine cSeq (fun K3 hK3 => ?_)
  replace H := bnd H; obtain ⟨y1, H, Ho1⟩ := H
  refine cJoin (y := y1) (fun (s1 : Bool) a w => Env 194 [(0, .int .i64 a0), (1, .slice A_a1 a1.length c_a1), (2, .slice A_a2 a2.length c_a2), (6, .bool false), (21, .bool s1)] a ∧ Fits z w F) ?_ ?_
  · refine cRgn [(3, 17)] ⟨rfl, trivial⟩ ?_
    refine sL (mv rfl) rfl ?_
    refine sL (lnS rfl Try.underlying22) rfl ?_
    refine sL (bGtr rfl rfl) rfl ?_
    refine sL (mv rfl) rfl ?_
    by_cases c2 : 40 < (a1.length : Int)
    · replace H := itT c2 H
      refine lSet (i := 17) rfl (dT c2) ?_
      refine sN rfl rfl rfl rfl ?_
      refine sN rfl rfl rfl rfl ?_
      refine sN rfl rfl rfl rfl ?_
      refine sL (pkT rfl rfl) rfl ?_
      refine lEnd (K := fun _ _ => True) ?_
      refine kN (?_)
      exact ofEnv (fun a hE => ⟨_, (Option.some.inj H).symm, ⟨hE.keep (Keep.cons rfl (Keep.cons rfl (Keep.cons rfl (Keep.cons rfl (Keep.cons rfl (Keep.nil)))))), HF⟩⟩)
    · replace H := itF c2 H
      refine lSet (i := 17) rfl (dF c2) ?_
      refine sG rfl rfl (mv rfl) rfl ?_
      refine sG rfl rfl (lnS rfl Try.underlying23) rfl ?_
      refine sG rfl rfl (bGtr rfl rfl) rfl ?_
      refine sL (pkF rfl rfl) rfl ?_
      refine lEnd (K := fun _ _ => True) ?_
      refine kN (?_)
      exact ofEnv (fun a hE => ⟨_, (Option.some.inj H).symm, ⟨hE.keep (Keep.cons rfl (Keep.cons rfl (Keep.cons rfl (Keep.cons rfl (Keep.cons rfl (Keep.nil)))))), HF⟩⟩)
  · rintro s1 a w1 rfl ⟨hE, HF1⟩
    replace H := Ho1
    refine go_k hE ?_
    refine kN (?_)
    refine hK3 _ _ ?_
    by_cases c3 : s1 = true
    · replace H := itT c3 H
      refine cSet (i := 21) rfl (vT c3) ?_
      refine cT rfl ?_
      refine cSeq (fun K4 hK4 => ?_)
      refine cRgn [] trivial ?_
      replace H := bnd H; obtain ⟨t1, J1, H⟩ := H
      refine eCall isf5 rfl rfl rfl (f_plenumlaw14_awake.ok hG J1 HF1) ?_
      rintro _ w2 ⟨rfl, HF2⟩
      refine ⟨_, rfl, ?_⟩
      refine sL (asg rfl) rfl ?_
      refine lEnd (K := fun _ _ => True) ?_
      refine kN (?_)
      refine hK4 _ _ ?_
      refine cRet ?_
      obtain rfl := Option.some.inj H
      refine kR (?_)
      refine ret1 rfl rfl ?_
      exact ⟨rfl, HF2⟩
    · replace H := itF c3 H
      refine cSet (i := 21) rfl (vF c3) ?_
      refine cF rfl ?_
      refine cSkip ?_
      refine kN (?_)
      refine hK2 _ _ ?_
      refine cSeq (fun K5 hK5 => ?_)
      refine cSeq (fun K6 hK6 => ?_)
      refine cRgn [] trivial ?_
      refine sL (asg rfl) rfl ?_
      refine lEnd (K := fun _ _ => True) ?_
      refine kN (?_)
      refine hK6 _ _ ?_
      replace H := bnd H; obtain ⟨y2, J15, Ho2⟩ := H
      refine cLoopB (f_plenumlaw14_AnswerLots.b0 a1) (fun (s2 : Int) a w => Env 194 [(0, .int .i64 a0), (1, .slice A_a1 a1.length c_a1), (2, .slice A_a2 a2.length c_a2), (6, .bool false), (7, .int .i64 s2)] a ∧ Fits z w F) J15 (fun a hE => ⟨hE.keep (Keep.cons rfl (Keep.cons rfl (Keep.cons rfl (Keep.cons rfl (Keep.cons rfl (Keep.nil)))))), HF1⟩) ?_ ?_
      · rintro s2 a w7 y3 ⟨hE, HF7⟩ H Hx1
        refine go_ hE ?_
        refine cSeq (fun K17 hK17 => ?_)
        refine cSeq (fun K18 hK18 => ?_)
        refine cRgn [] trivial ?_
        refine sL (mv rfl) rfl ?_
        refine sL (mv rfl) rfl ?_
        refine sL (lnS rfl Try.underlying22) rfl ?_
        refine sL (bLss rfl rfl) rfl ?_
        refine lEnd (K := fun _ _ => True) ?_
        refine kN (?_)
        refine hK18 _ _ ?_
        by_cases c15 : s2 < (a1.length : Int)
        · replace H := itT c15 H
          refine cSet (i := 26) rfl (dT c15) ?_
          refine cT rfl ?_
          refine cSkip ?_
          refine kN (?_)
          refine hK17 _ _ ?_
          refine cSeq (fun K19 hK19 => ?_)
          refine cBlock ?_
          refine cSeq (fun K20 hK20 => ?_)
          refine cRgn [] trivial ?_
          refine sL (mv rfl) rfl ?_
          refine sL (mv rfl) rfl ?_
          replace H := chk H; obtain ⟨c16, H⟩ := H
          obtain ⟨g3, o3, e6, rfl, hk3, q3⟩ := RdS.at_ hr_a1 c16 c15
          obtain ⟨A7, c17, A8, c18, A9, c19, rfl, hr7, hr8, hr9⟩ := rd_T_api_Lsa hk3
          refine sL (ia rfl rfl Try.underlying22 ti32 c16 c15) rfl ?_
          refine sL (ldA rfl ti32 rfl rfl (fun j v hj => HF7.cells (hX_a1) (q3 j v hj))) rfl ?_
          replace H := bnd H; obtain ⟨t6, J6, H⟩ := H
          refine eCall isf6 rfl rfl rfl (f_plenumlaw5_Great.ok (a0 := (rd a1 s2)) hG J6 HF7 hG hr7 hG hr8 hG hr9) ?_
          rintro _ w8 ⟨rfl, HF8⟩
          refine ⟨_, rfl, ?_⟩
          refine lEnd (K := fun _ _ => True) ?_
          refine kN (?_)
          refine hK20 _ _ ?_
          by_cases c20 : t6 = true
          · replace H := itT c20 H
            refine cSet (i := 33) rfl (vT c20) ?_
            refine cT rfl ?_
            refine cSeq (fun K21 hK21 => ?_)
            refine cRgn [] trivial ?_
            replace H := bnd H; obtain ⟨t7, J7, H⟩ := H
            refine eCall isf5 rfl rfl rfl (f_plenumlaw14_awake.ok hG J7 HF8) ?_
            rintro _ w9 ⟨rfl, HF9⟩
            refine ⟨_, rfl, ?_⟩
            refine sL (asg rfl) rfl ?_
            refine lEnd (K := fun _ _ => True) ?_
            refine kN (?_)
            refine hK21 _ _ ?_
            refine cRet ?_
            have e_ := Hx1 _ (Option.some.inj H).symm
            subst e_
            replace H := Ho2
            obtain rfl := Option.some.inj H
            refine jR (kR (kR (jR (kR (kR (?_))))))
            refine ret1 rfl rfl ?_
            exact ⟨rfl, HF9⟩
          · replace H := itF c20 H
            refine cSet (i := 33) rfl (vF c20) ?_
            refine cF rfl ?_
            refine cSkip ?_
            refine jN (kN (?_))
            refine hK19 _ _ ?_
            refine cRgn [] trivial ?_
            refine sL (mv rfl) rfl ?_
            refine sL (bAdd rfl rfl) rfl ?_
            refine sL (asg rfl) rfl ?_
            refine lEnd (K := fun _ _ => True) ?_
            refine kN (?_)
            exact ofEnv (fun a hE => ⟨_, (Option.some.inj H).symm, ⟨hE.keep (Keep.cons rfl (Keep.cons rfl (Keep.cons rfl (Keep.cons rfl (Keep.cons rfl (Keep.nil)))))), HF8⟩⟩)
        · replace H := itF c15 H
          refine cSet (i := 26) rfl (dF c15) ?_
          refine cF rfl ?_
          refine cExit ?_
          refine kX (kX (jX (kN (?_))))
          exact ofEnv (fun a hE => ⟨_, (Option.some.inj H).symm, ⟨hE.keep (Keep.cons rfl (Keep.cons rfl (Keep.cons rfl (Keep.cons rfl (Keep.cons rfl (Keep.nil)))))), HF7⟩⟩)
      · rintro s2 a w10 rfl ⟨hE, HF10⟩
        replace H := Ho2
        refine go_k hE ?_
        refine kN (?_)
        refine hK5 _ _ ?_
        refine cSeq (fun K22 hK22 => ?_)
        refine cRgn [] trivial ?_
        refine sL (asg rfl) rfl ?_
        refine lEnd (K := fun _ _ => True) ?_
        refine kN (?_)
        refine hK22 _ _ ?_
        refine cSeq (fun K23 hK23 => ?_)
        refine cRgn [] trivial ?_
        refine sL (asg rfl) rfl ?_
        refine lEnd (K := fun _ _ => True) ?_
        refine kN (?_)
        refine hK23 _ _ ?_
        refine cSeq (fun K24 hK24 => ?_)
        refine cRgn [] trivial ?_
        refine sL (mv rfl) rfl ?_
        refine sL (mv rfl) rfl ?_
        replace H := bnd H; obtain ⟨t8, J8, H⟩ := H
        refine eCall isf7 rfl rfl rfl (f_answer_Updates.ok (a1 := a1) hG J8 HF10 hX_a1 hr_a1) ?_
        rintro _ w11 ⟨N1, A10, c21, L1, rfl, HF11, ho1⟩
        have hs1 : G ⊆ N1 ++ G := sub_a sub_r
        refine ⟨_, rfl, ?_⟩
        refine sL (mv rfl) rfl ?_
        refine sL (mv rfl) rfl ?_
        replace H := bnd H; obtain ⟨t9, J9, H⟩ := H
        refine eCall isf8 rfl rfl rfl (f_answer_Acks.ok (a1 := a2) (sub_a (sub_n hG)) J9 HF11 (sub_a (sub_a hX_a2)) hr_a2) ?_
        rintro _ w12 ⟨N2, A11, c22, L2, rfl, HF12, ho2⟩
        have HF13 := HF12.perm (pm_a (perm_f (List.Perm.refl _)).symm)
        obtain ⟨N3, hN1⟩ : ∃ N_, N_ = N2 ++ N1 := ⟨_, rfl⟩
        have HF14 := HF13; rw [← List.append_assoc N2 N1 F, ← hN1] at HF14
        have hs2 : N1 ++ G ⊆ N3 ++ G := frz_s hN1
        have hr10 := OwnS.lift (G' := (N3 ++ G)) ho2 (frz_c hN1)
        refine ⟨_, rfl, ?_⟩
        refine sL (asg rfl) rfl ?_
        refine sL (asg rfl) rfl ?_
        refine lEnd (K := fun _ _ => True) ?_
        refine kN (?_)
        refine hK24 _ _ ?_
        refine cSeq (fun K25 hK25 => ?_)
        refine cSeq (fun K26 hK26 => ?_)
        refine cRgn [] trivial ?_
        refine sL (asg rfl) rfl ?_
        refine lEnd (K := fun _ _ => True) ?_
        refine kN (?_)
        refine hK26 _ _ ?_
        replace H := bnd H; obtain ⟨y4, J14, Ho3⟩ := H
        refine cLoopB (f_plenumlaw14_AnswerLots.b1 a0 t8) (fun (s3 : (List T_api_Lsa) × Int) a w => ∃ (A89 : Option Addr) (c123 : Nat) (L8 : Hp), Env 194 [(0, .int .i64 a0), (1, .slice A_a1 a1.length c_a1), (2, .slice A_a2 a2.length c_a2), (6, .bool false), (8, .slice A89 s3.1.length c123), (9, .slice none 0 0), (10, .slice A10 t8.length c21), (11, .slice A11 t9.length c22), (12, .int .i64 s3.2)] a ∧ Fits z w (L8 ++ (L2 ++ (L1 ++ (N3 ++ F)))) ∧ OwnS (kShr (N3 ++ G) k_T_api_Lsa) L8 A89 c123 s3.1) J14 (fun a hE => ⟨none, 0, [], hE.keep (Keep.cons rfl (Keep.cons rfl (Keep.cons rfl (Keep.cons rfl (Keep.cons rfl (Keep.cons rfl (Keep.cons rfl (Keep.cons rfl (Keep.cons rfl (Keep.nil)))))))))), HF14, OwnS.nil⟩) ?_ ?_
        · rintro s3 a w17 y5 ⟨A89, c123, L8, hE, HF19, ho8⟩ H Hx2
          refine go_ hE ?_
          refine cSeq (fun K51 hK51 => ?_)
          refine cSeq (fun K52 hK52 => ?_)
          refine cRgn [] trivial ?_
          refine sL (mv rfl) rfl ?_
          refine sL (mv rfl) rfl ?_
          refine sL (lnS rfl Try.underlying33) rfl ?_
          refine sL (bLss rfl rfl) rfl ?_
          refine lEnd (K := fun _ _ => True) ?_
          refine kN (?_)
          refine hK52 _ _ ?_
          by_cases c124 : s3.2 < (t8.length : Int)
          · replace H := itT c124 H
            refine cSet (i := 44) rfl (dT c124) ?_
            refine cT rfl ?_
            refine cSkip ?_
            refine kN (?_)
            refine hK51 _ _ ?_
            refine cSeq (fun K53 hK53 => ?_)
            refine cBlock ?_
            refine cSeq (fun K54 hK54 => ?_)
            refine cSeq (fun K55 hK55 => ?_)
            refine cRgn [(6, 53), (15, 62), (24, 71), (33, 80), (39, 86), (49, 96)] ⟨rfl, rfl, rfl, rfl, rfl, rfl, trivial⟩ ?_
            refine sL (mv rfl) rfl ?_
            refine sL (mv rfl) rfl ?_
            replace H := chk H; obtain ⟨c125, H⟩ := H
            obtain ⟨g6, o6, e44, rfl, hk22, q22⟩ := RdS.at_ ho1.rd c125 c124
            obtain ⟨A90, c126, A91, c127, A92, c128, A93, c129, rfl, hr83, hr84, hr85, hr86⟩ := rd_T_api_Packet hk22
            refine sL (ia rfl rfl Try.underlying33 ti38 c125 c124) rfl ?_
            refine sL (fa38_0 rfl) rfl ?_
            refine sL (ld rfl Try.underlying3 rfl (HF19.cells ((sub_a (sub_a sub_h))) (q22 0 _ rfl))) rfl ?_
            refine sL (bNeq rfl rfl) rfl ?_
            refine sL (mv rfl) rfl ?_
            by_cases c130 : ((rd t8 s3.2).f_Kind) = 4
            · replace H := itT c130 H
              refine lSet (i := 53) rfl (nF c130) ?_
              refine sG rfl rfl (mv rfl) rfl ?_
              refine sG rfl rfl (mv rfl) rfl ?_
              obtain ⟨e46, hk23, q23⟩ := RdS.at' ho1.rd c125 c124
              obtain ⟨A94, c131, A95, c132, A96, c133, A97, c134, rfl, hr87, hr88, hr89, hr90⟩ := rd_T_api_Packet hk23
              refine sG rfl rfl (ia rfl rfl Try.underlying33 ti38 c125 c124) rfl ?_
              refine sG rfl rfl (fa38_1 rfl) rfl ?_
              refine sG rfl rfl (ld rfl Try.underlying3 rfl (HF19.cells ((sub_a (sub_a sub_h))) (q23 1 _ rfl))) rfl ?_
              refine sG rfl rfl (mv rfl) rfl ?_
              refine sG rfl rfl (bNeq rfl rfl) rfl ?_
              refine sL (pkF rfl rfl) rfl ?_
              refine sL (mv rfl) rfl ?_
              by_cases c135 : ((rd t8 s3.2).f_Router) = a0
              · replace H := itT c135 H
                refine lSet (i := 62) rfl (nF c135) ?_
                refine sG rfl rfl (mv rfl) rfl ?_
                refine sG rfl rfl (mv rfl) rfl ?_
                obtain ⟨e48, hk24, q24⟩ := RdS.at' ho1.rd c125 c124
                obtain ⟨A98, c136, A99, c137, A100, c138, A101, c139, rfl, hr91, hr92, hr93, hr94⟩ := rd_T_api_Packet hk24
                refine sG rfl rfl (ia rfl rfl Try.underlying33 ti38 c125 c124) rfl ?_
                refine sG rfl rfl (fa38_11 rfl) rfl ?_
                refine sG rfl rfl (ld rfl Try.underlying22 rfl (HF19.cells ((sub_a (sub_a sub_h))) (q24 11 _ rfl))) rfl ?_
                refine sG rfl rfl (lnS rfl Try.underlying22) rfl ?_
                refine sG rfl rfl (bEql rfl rfl) rfl ?_
                refine sL (pkF rfl rfl) rfl ?_
                refine sL (mv rfl) rfl ?_
                by_cases c140 : (((rd t8 s3.2).f_Lsas).length : Int) = 0
                · replace H := itT c140 H
                  refine lSet (i := 71) rfl (dT c140) ?_
                  refine sN rfl rfl rfl rfl ?_
                  refine sN rfl rfl rfl rfl ?_
                  refine sN rfl rfl rfl rfl ?_
                  refine sN rfl rfl rfl rfl ?_
                  refine sN rfl rfl rfl rfl ?_
                  refine sN rfl rfl rfl rfl ?_
                  refine sN rfl rfl rfl rfl ?_
                  refine sL (pkT rfl rfl) rfl ?_
                  refine sL (mv rfl) rfl ?_
                  refine sN rfl rfl rfl rfl ?_
                  refine sN rfl rfl rfl rfl ?_
                  refine sN rfl rfl rfl rfl ?_
                  refine sN rfl rfl rfl rfl ?_
                  refine sN rfl rfl rfl rfl ?_
                  refine sN rfl rfl rfl rfl ?_
                  refine sU rfl rfl rfl rfl ?_
                  refine sU rfl rfl rfl rfl ?_
                  refine sU rfl rfl rfl rfl ?_
                  refine sU rfl rfl rfl rfl ?_
                  refine sU rfl rfl rfl rfl ?_
                  refine sU rfl rfl rfl rfl ?_
                  refine sU rfl rfl rfl rfl ?_
                  refine sN rfl rfl rfl rfl ?_
                  refine sL (pkT rfl rfl) rfl ?_
                  refine sL (mv rfl) rfl ?_
                  refine sN rfl rfl rfl rfl ?_
                  refine sN rfl rfl rfl rfl ?_
                  refine sN rfl rfl rfl rfl ?_
                  refine sN rfl rfl rfl rfl ?_
                  refine sN rfl rfl rfl rfl ?_
                  refine sN rfl rfl rfl rfl ?_
                  refine sN rfl rfl rfl rfl ?_
                  refine sL (pkT rfl rfl) rfl ?_
                  refine lEnd (K := fun _ _ => True) ?_
                  refine kN (?_)
                  refine hK55 _ _ ?_
                  refine cT rfl ?_
                  refine cSeq (fun K56 hK56 => ?_)
                  refine cRgn [] trivial ?_
                  refine sL (asg rfl) rfl ?_
                  refine lEnd (K := fun _ _ => True) ?_
                  refine kN (?_)
                  refine hK56 _ _ ?_
                  refine cRet ?_
                  have e_ := Hx2 _ (Option.some.inj H).symm
                  subst e_
                  replace H := Ho3
                  obtain rfl := Option.some.inj H
                  refine kR (jR (kR (kR (jR (kR (kR (?_)))))))
                  refine ret1 rfl rfl ?_
                  have HF20 := HF19.sublist (sl_da (sl_da (sl_da (List.Sublist.refl _))))
                  have HF21 := Fits.conv (L' := ((N2 ++ N1) ++ F)) HF20 (by rw [hN1] <;> rfl)
                  have HF22 := HF21.sublist (sl_da (List.Sublist.refl _))
                  exact ⟨rfl, HF22⟩
                · replace H := itF c140 H
                  refine lSet (i := 71) rfl (dF c140) ?_
                  refine sG rfl rfl (mv rfl) rfl ?_
                  refine sG rfl rfl (mv rfl) rfl ?_
                  obtain ⟨e50, hk25, q25⟩ := RdS.at' ho1.rd c125 c124
                  obtain ⟨A102, c141, A103, c142, A104, c143, A105, c144, rfl, hr95, hr96, hr97, hr98⟩ := rd_T_api_Packet hk25
                  refine sG rfl rfl (ia rfl rfl Try.underlying33 ti38 c125 c124) rfl ?_
                  refine sG rfl rfl (fa38_11 rfl) rfl ?_
                  refine sG rfl rfl (ld rfl Try.underlying22 rfl (HF19.cells ((sub_a (sub_a sub_h))) (q25 11 _ rfl))) rfl ?_
                  refine sG rfl rfl (lnS rfl Try.underlying22) rfl ?_
                  refine sG rfl rfl (bGtr rfl rfl) rfl ?_
                  refine sL (pkF rfl rfl) rfl ?_
                  refine sL (mv rfl) rfl ?_
                  by_cases c145 : 4 < (((rd t8 s3.2).f_Lsas).length : Int)
                  · replace H := itT c145 H
                    refine lSet (i := 80) rfl (dT c145) ?_
                    refine sN rfl rfl rfl rfl ?_
                    refine sN rfl rfl rfl rfl ?_
                    refine sN rfl rfl rfl rfl ?_
                    refine sN rfl rfl rfl rfl ?_
                    refine sN rfl rfl rfl rfl ?_
                    refine sN rfl rfl rfl rfl ?_
                    refine sU rfl rfl rfl rfl ?_
                    refine sU rfl rfl rfl rfl ?_
                    refine sU rfl rfl rfl rfl ?_
                    refine sU rfl rfl rfl rfl ?_
                    refine sU rfl rfl rfl rfl ?_
                    refine sU rfl rfl rfl rfl ?_
                    refine sU rfl rfl rfl rfl ?_
                    refine sN rfl rfl rfl rfl ?_
                    refine sL (pkT rfl rfl) rfl ?_
                    refine sL (mv rfl) rfl ?_
                    refine sN rfl rfl rfl rfl ?_
                    refine sN rfl rfl rfl rfl ?_
                    refine sN rfl rfl rfl rfl ?_
                    refine sN rfl rfl rfl rfl ?_
                    refine sN rfl rfl rfl rfl ?_
                    refine sN rfl rfl rfl rfl ?_
                    refine sN rfl rfl rfl rfl ?_
                    refine sL (pkT rfl rfl) rfl ?_
                    refine lEnd (K := fun _ _ => True) ?_
                    refine kN (?_)
                    refine hK55 _ _ ?_
                    refine cT rfl ?_
                    refine cSeq (fun K57 hK57 => ?_)
                    refine cRgn [] trivial ?_
                    refine sL (asg rfl) rfl ?_
                    refine lEnd (K := fun _ _ => True) ?_
                    refine kN (?_)
                    refine hK57 _ _ ?_
                    refine cRet ?_
                    have e_ := Hx2 _ (Option.some.inj H).symm
                    subst e_
                    replace H := Ho3
                    obtain rfl := Option.some.inj H
                    refine kR (jR (kR (kR (jR (kR (kR (?_)))))))
                    refine ret1 rfl rfl ?_
                    have HF23 := HF19.sublist (sl_da (sl_da (sl_da (List.Sublist.refl _))))
                    have HF24 := Fits.conv (L' := ((N2 ++ N1) ++ F)) HF23 (by rw [hN1] <;> rfl)
                    have HF25 := HF24.sublist (sl_da (List.Sublist.refl _))
                    exact ⟨rfl, HF25⟩
                  · replace H := itF c145 H
                    refine lSet (i := 80) rfl (dF c145) ?_
                    refine sG rfl rfl (mv rfl) rfl ?_
                    refine sG rfl rfl (mv rfl) rfl ?_
                    refine sG rfl rfl (lnS rfl Try.underlying33) rfl ?_
                    refine sG rfl rfl (bSub rfl rfl) rfl ?_
                    refine sG rfl rfl (bLss rfl rfl) rfl ?_
                    refine sG rfl rfl (mv rfl) rfl ?_
                    by_cases c146 : s3.2 < (IntKind.i64.wrap ((t8.length : Int) - 1))
                    · replace H := itT c146 H
                      refine lSet (i := 86) rfl (dT c146) ?_
                      refine sG rfl rfl (mv rfl) rfl ?_
                      refine sG rfl rfl (mv rfl) rfl ?_
                      obtain ⟨e52, hk26, q26⟩ := RdS.at' ho1.rd c125 c124
                      obtain ⟨A106, c147, A107, c148, A108, c149, A109, c150, rfl, hr99, hr100, hr101, hr102⟩ := rd_T_api_Packet hk26
                      refine sG rfl rfl (ia rfl rfl Try.underlying33 ti38 c125 c124) rfl ?_
                      refine sG rfl rfl (fa38_11 rfl) rfl ?_
                      refine sG rfl rfl (ld rfl Try.underlying22 rfl (HF19.cells ((sub_a (sub_a sub_h))) (q26 11 _ rfl))) rfl ?_
                      refine sG rfl rfl (lnS rfl Try.underlying22) rfl ?_
                      refine sG rfl rfl (bNeq rfl rfl) rfl ?_
                      refine sG rfl rfl (pkT rfl rfl) rfl ?_
                      refine sL (pkF rfl rfl) rfl ?_
                      refine sL (mv rfl) rfl ?_
                      by_cases c151 : (((rd t8 s3.2).f_Lsas).length : Int) = 4
                      · replace H := itT c151 H
                        refine lSet (i := 96) rfl (nF c151) ?_
                        refine sG rfl rfl (mv rfl) rfl ?_
                        refine sG rfl rfl (mv rfl) rfl ?_
                        obtain ⟨e54, hk27, q27⟩ := RdS.at' ho1.rd c125 c124
                        obtain ⟨A110, c152, A111, c153, A112, c154, A113, c155, rfl, hr103, hr104, hr105, hr106⟩ := rd_T_api_Packet hk27
                        refine sG rfl rfl (ia rfl rfl Try.underlying33 ti38 c125 c124) rfl ?_
                        refine sG rfl rfl (fa38_9 rfl) rfl ?_
                        refine sG rfl rfl (ld rfl Try.underlying23 rfl (HF19.cells ((sub_a (sub_a sub_h))) (q27 9 _ rfl))) rfl ?_
                        refine sG rfl rfl (lnS rfl Try.underlying23) rfl ?_
                        refine sG rfl rfl (bGtr rfl rfl) rfl ?_
                        refine sL (pkF rfl rfl) rfl ?_
                        refine lEnd (K := fun _ _ => True) ?_
                        refine kN (?_)
                        refine hK55 _ _ ?_
                        by_cases c156 : 0 < (((rd t8 s3.2).f_Heads).length : Int)
                        · replace H := itT c156 H
                          refine cSet (i := 104) rfl (dT c156) ?_
                          refine cT rfl ?_
                          refine cSeq (fun K58 hK58 => ?_)
                          refine cRgn [] trivial ?_
                          refine sL (asg rfl) rfl ?_
                          refine lEnd (K := fun _ _ => True) ?_
                          refine kN (?_)
                          refine hK58 _ _ ?_
                          refine cRet ?_
                          have e_ := Hx2 _ (Option.some.inj H).symm
                          subst e_
                          replace H := Ho3
                          obtain rfl := Option.some.inj H
                          refine kR (jR (kR (kR (jR (kR (kR (?_)))))))
                          refine ret1 rfl rfl ?_
                          have HF26 := HF19.sublist (sl_da (sl_da (sl_da (List.Sublist.refl _))))
                          have HF27 := Fits.conv (L' := ((N2 ++ N1) ++ F)) HF26 (by rw [hN1] <;> rfl)
                          have HF28 := HF27.sublist (sl_da (List.Sublist.refl _))
                          exact ⟨rfl, HF28⟩
                        · replace H := itF c156 H
                          refine cSet (i := 104) rfl (dF c156) ?_
                          refine cF rfl ?_
                          refine cSkip ?_
                          refine kN (?_)
                          refine hK54 _ _ ?_
                          refine cRgn [] trivial ?_
                          refine sL (mv rfl) rfl ?_
                          refine sL (mv rfl) rfl ?_
                          refine sL (mv rfl) rfl ?_
                          obtain ⟨e56, hk28, q28⟩ := RdS.at' ho1.rd c125 c124
                          obtain ⟨A114, c157, A115, c158, A116, c159, A117, c160, rfl, hr107, hr108, hr109, hr110⟩ := rd_T_api_Packet hk28
                          refine sL (ia rfl rfl Try.underlying33 ti38 c125 c124) rfl ?_
                          refine sL (fa38_11 rfl) rfl ?_
                          refine sL (ld rfl Try.underlying22 rfl (HF19.cells ((sub_a (sub_a sub_h))) (q28 11 _ rfl))) rfl ?_
                          replace H := chk H; obtain ⟨c161, H⟩ := H
                          refine eW (oApp (xs := s3.1) (ys := ((rd t8 s3.2).f_Lsas)) (kShr (N3 ++ G) k_T_api_Lsa) HF19 rfl rfl Try.underlying22 Try.underlying22 ti32 rfl ho8 (srcR shrS (RdS.lift hr110 hs2 sub_r) HF19 (sub_a (sub_a (sub_a (sub_t hs2 (sub_n hG)))))) c161 rfl) rfl ?_
                          rintro _ w18 ⟨L9, A118, c162, rfl, HF29, ho9⟩
                          refine sL (asg rfl) rfl ?_
                          refine lEnd (K := fun _ _ => True) ?_
                          refine jN (kN (?_))
                          refine hK53 _ _ ?_
                          refine cRgn [] trivial ?_
                          refine sL (mv rfl) rfl ?_
                          refine sL (bAdd rfl rfl) rfl ?_
                          refine sL (asg rfl) rfl ?_
                          refine lEnd (K := fun _ _ => True) ?_
                          refine kN (?_)
                          exact ofEnv (fun a hE => ⟨_, (Option.some.inj H).symm, ⟨_, _, L9, hE.keep (Keep.cons rfl (Keep.cons rfl (Keep.cons rfl (Keep.cons rfl (Keep.cons rfl (Keep.cons rfl (Keep.cons rfl (Keep.cons rfl (Keep.cons rfl (Keep.nil)))))))))), HF29, ho9⟩⟩)
                      · replace H := itF c151 H
                        refine lSet (i := 96) rfl (nT c151) ?_
                        refine sN rfl rfl rfl rfl ?_
                        refine sN rfl rfl rfl rfl ?_
                        refine sN rfl rfl rfl rfl ?_
                        refine sN rfl rfl rfl rfl ?_
                        refine sN rfl rfl rfl rfl ?_
                        refine sN rfl rfl rfl rfl ?_
                        refine sN rfl rfl rfl rfl ?_
                        refine sL (pkT rfl rfl) rfl ?_
                        refine lEnd (K := fun _ _ => True) ?_
                        refine kN (?_)
                        refine hK55 _ _ ?_
                        refine cT rfl ?_
                        refine cSeq (fun K59 hK59 => ?_)
                        refine cRgn [] trivial ?_
                        refine sL (asg rfl) rfl ?_
                        refine lEnd (K := fun _ _ => True) ?_
                        refine kN (?_)
                        refine hK59 _ _ ?_
                        refine cRet ?_
                        have e_ := Hx2 _ (Option.some.inj H).symm
                        subst e_
                        replace H := Ho3
                        obtain rfl := Option.some.inj H
                        refine kR (jR (kR (kR (jR (kR (kR (?_)))))))
                        refine ret1 rfl rfl ?_
                        have HF30 := HF19.sublist (sl_da (sl_da (sl_da (List.Sublist.refl _))))
                        have HF31 := Fits.conv (L' := ((N2 ++ N1) ++ F)) HF30 (by rw [hN1] <;> rfl)
                        have HF32 := HF31.sublist (sl_da (List.Sublist.refl _))
                        exact ⟨rfl, HF32⟩
                    · replace H := itF c146 H
                      refine lSet (i := 86) rfl (dF c146) ?_
                      refine sN rfl rfl rfl rfl ?_
                      refine sN rfl rfl rfl rfl ?_
                      refine sN rfl rfl rfl rfl ?_
                      refine sN rfl rfl rfl rfl ?_
                      refine sN rfl rfl rfl rfl ?_
                      refine sN rfl rfl rfl rfl ?_
                      refine sN rfl rfl rfl rfl ?_
                      refine sG rfl rfl (pkF rfl rfl) rfl ?_
                      refine sL (pkF rfl rfl) rfl ?_
                      refine sL (mv rfl) rfl ?_
                      refine sG rfl rfl (mv rfl) rfl ?_
                      refine sG rfl rfl (mv rfl) rfl ?_
                      obtain ⟨e58, hk29, q29⟩ := RdS.at' ho1.rd c125 c124
                      obtain ⟨A119, c163, A120, c164, A121, c165, A122, c166, rfl, hr111, hr112, hr113, hr114⟩ := rd_T_api_Packet hk29
                      refine sG rfl rfl (ia rfl rfl Try.underlying33 ti38 c125 c124) rfl ?_
                      refine sG rfl rfl (fa38_9 rfl) rfl ?_
                      refine sG rfl rfl (ld rfl Try.underlying23 rfl (HF19.cells ((sub_a (sub_a sub_h))) (q29 9 _ rfl))) rfl ?_
                      refine sG rfl rfl (lnS rfl Try.underlying23) rfl ?_
                      refine sG rfl rfl (bGtr rfl rfl) rfl ?_
                      refine sL (pkF rfl rfl) rfl ?_
                      refine lEnd (K := fun _ _ => True) ?_
                      refine kN (?_)
                      refine hK55 _ _ ?_
                      by_cases c167 : 0 < (((rd t8 s3.2).f_Heads).length : Int)
                      · replace H := itT c167 H
                        refine cSet (i := 104) rfl (dT c167) ?_
                        refine cT rfl ?_
                        refine cSeq (fun K60 hK60 => ?_)
                        refine cRgn [] trivial ?_
                        refine sL (asg rfl) rfl ?_
                        refine lEnd (K := fun _ _ => True) ?_
                        refine kN (?_)
                        refine hK60 _ _ ?_
                        refine cRet ?_
                        have e_ := Hx2 _ (Option.some.inj H).symm
                        subst e_
                        replace H := Ho3
                        obtain rfl := Option.some.inj H
                        refine kR (jR (kR (kR (jR (kR (kR (?_)))))))
                        refine ret1 rfl rfl ?_
                        have HF33 := HF19.sublist (sl_da (sl_da (sl_da (List.Sublist.refl _))))
                        have HF34 := Fits.conv (L' := ((N2 ++ N1) ++ F)) HF33 (by rw [hN1] <;> rfl)
                        have HF35 := HF34.sublist (sl_da (List.Sublist.refl _))
                        exact ⟨rfl, HF35⟩
                      · replace H := itF c167 H
                        refine cSet (i := 104) rfl (dF c167) ?_
                        refine cF rfl ?_
                        refine cSkip ?_
                        refine kN (?_)
                        refine hK54 _ _ ?_
                        refine cRgn [] trivial ?_
                        refine sL (mv rfl) rfl ?_
                        refine sL (mv rfl) rfl ?_
                        refine sL (mv rfl) rfl ?_
                        obtain ⟨e60, hk30, q30⟩ := RdS.at' ho1.rd c125 c124
                        obtain ⟨A123, c168, A124, c169, A125, c170, A126, c171, rfl, hr115, hr116, hr117, hr118⟩ := rd_T_api_Packet hk30
                        refine sL (ia rfl rfl Try.underlying33 ti38 c125 c124) rfl ?_
                        refine sL (fa38_11 rfl) rfl ?_
                        refine sL (ld rfl Try.underlying22 rfl (HF19.cells ((sub_a (sub_a sub_h))) (q30 11 _ rfl))) rfl ?_
                        replace H := chk H; obtain ⟨c172, H⟩ := H
                        refine eW (oApp (xs := s3.1) (ys := ((rd t8 s3.2).f_Lsas)) (kShr (N3 ++ G) k_T_api_Lsa) HF19 rfl rfl Try.underlying22 Try.underlying22 ti32 rfl ho8 (srcR shrS (RdS.lift hr118 hs2 sub_r) HF19 (sub_a (sub_a (sub_a (sub_t hs2 (sub_n hG)))))) c172 rfl) rfl ?_
                        rintro _ w19 ⟨L10, A127, c173, rfl, HF36, ho10⟩
                        refine sL (asg rfl) rfl ?_
                        refine lEnd (K := fun _ _ => True) ?_
                        refine jN (kN (?_))
                        refine hK53 _ _ ?_
                        refine cRgn [] trivial ?_
                        refine sL (mv rfl) rfl ?_
                        refine sL (bAdd rfl rfl) rfl ?_
                        refine sL (asg rfl) rfl ?_
                        refine lEnd (K := fun _ _ => True) ?_
                        refine kN (?_)
                        exact ofEnv (fun a hE => ⟨_, (Option.some.inj H).symm, ⟨_, _, L10, hE.keep (Keep.cons rfl (Keep.cons rfl (Keep.cons rfl (Keep.cons rfl (Keep.cons rfl (Keep.cons rfl (Keep.cons rfl (Keep.cons rfl (Keep.cons rfl (Keep.nil)))))))))), HF36, ho10⟩⟩)
              · replace H := itF c135 H
                refine lSet (i := 62) rfl (nT c135) ?_
                refine sN rfl rfl rfl rfl ?_
                refine sN rfl rfl rfl rfl ?_
                refine sN rfl rfl rfl rfl ?_
                refine sN rfl rfl rfl rfl ?_
                refine sN rfl rfl rfl rfl ?_
                refine sN rfl rfl rfl rfl ?_
                refine sN rfl rfl rfl rfl ?_
                refine sL (pkT rfl rfl) rfl ?_
                refine sL (mv rfl) rfl ?_
                refine sN rfl rfl rfl rfl ?_
                refine sN rfl rfl rfl rfl ?_
                refine sN rfl rfl rfl rfl ?_
                refine sN rfl rfl rfl rfl ?_
                refine sN rfl rfl rfl rfl ?_
                refine sN rfl rfl rfl rfl ?_
                refine sN rfl rfl rfl rfl ?_
                refine sL (pkT rfl rfl) rfl ?_
                refine sL (mv rfl) rfl ?_
                refine sN rfl rfl rfl rfl ?_
                refine sN rfl rfl rfl rfl ?_
                refine sN rfl rfl rfl rfl ?_
                refine sN rfl rfl rfl rfl ?_
                refine sN rfl rfl rfl rfl ?_
                refine sN rfl rfl rfl rfl ?_
                refine sU rfl rfl rfl rfl ?_
                refine sU rfl rfl rfl rfl ?_
                refine sU rfl rfl rfl rfl ?_
                refine sU rfl rfl rfl rfl ?_
                refine sU rfl rfl rfl rfl ?_
                refine sU rfl rfl rfl rfl ?_
                refine sU rfl rfl rfl rfl ?_
                refine sN rfl rfl rfl rfl ?_
                refine sL (pkT rfl rfl) rfl ?_
                refine sL (mv rfl) rfl ?_
                refine sN rfl rfl rfl rfl ?_
                refine sN rfl rfl rfl rfl ?_
                refine sN rfl rfl rfl rfl ?_
                refine sN rfl rfl rfl rfl ?_
                refine sN rfl rfl rfl rfl ?_
                refine sN rfl rfl rfl rfl ?_
                refine sN rfl rfl rfl rfl ?_
                refine sL (pkT rfl rfl) rfl ?_
                refine lEnd (K := fun _ _ => True) ?_
                refine kN (?_)
                refine hK55 _ _ ?_
                refine cT rfl ?_
                refine cSeq (fun K61 hK61 => ?_)
                refine cRgn [] trivial ?_
                refine sL (asg rfl) rfl ?_
                refine lEnd (K := fun _ _ => True) ?_
                refine kN (?_)
                refine hK61 _ _ ?_
                refine cRet ?_
                have e_ := Hx2 _ (Option.some.inj H).symm
                subst e_
                replace H := Ho3
                obtain rfl := Option.some.inj H
                refine kR (jR (kR (kR (jR (kR (kR (?_)))))))
                refine ret1 rfl rfl ?_
                have HF37 := HF19.sublist (sl_da (sl_da (sl_da (List.Sublist.refl _))))
                have HF38 := Fits.conv (L' := ((N2 ++ N1) ++ F)) HF37 (by rw [hN1] <;> rfl)
                have HF39 := HF38.sublist (sl_da (List.Sublist.refl _))
                exact ⟨rfl, HF39⟩
            · replace H := itF c130 H
              refine lSet (i := 53) rfl (nT c130) ?_
              refine sN rfl rfl rfl rfl ?_
              refine sN rfl rfl rfl rfl ?_
              refine sN rfl rfl rfl rfl ?_
              refine sN rfl rfl rfl rfl ?_
              refine sN rfl rfl rfl rfl ?_
              refine sN rfl rfl rfl rfl ?_
              refine sN rfl rfl rfl rfl ?_
              refine sL (pkT rfl rfl) rfl ?_
              refine sL (mv rfl) rfl ?_
              refine sN rfl rfl rfl rfl ?_
              refine sN rfl rfl rfl rfl ?_
              refine sN rfl rfl rfl rfl ?_
              refine sN rfl rfl rfl rfl ?_
              refine sN rfl rfl rfl rfl ?_
              refine sN rfl rfl rfl rfl ?_
              refine sN rfl rfl rfl rfl ?_
              refine sL (pkT rfl rfl) rfl ?_
              refine sL (mv rfl) rfl ?_
              refine sN rfl rfl rfl rfl ?_
              refine sN rfl rfl rfl rfl ?_
              refine sN rfl rfl rfl rfl ?_
              refine sN rfl rfl rfl rfl ?_
              refine sN rfl rfl rfl rfl ?_
              refine sN rfl rfl rfl rfl ?_
              refine sN rfl rfl rfl rfl ?_
              refine sL (pkT rfl rfl) rfl ?_
              refine sL (mv rfl) rfl ?_
              refine sN rfl rfl rfl rfl ?_
              refine sN rfl rfl rfl rfl ?_
              refine sN rfl rfl rfl rfl ?_
              refine sN rfl rfl rfl rfl ?_
              refine sN rfl rfl rfl rfl ?_
              refine sN rfl rfl rfl rfl ?_
              refine sU rfl rfl rfl rfl ?_
              refine sU rfl rfl rfl rfl ?_
              refine sU rfl rfl rfl rfl ?_
              refine sU rfl rfl rfl rfl ?_
              refine sU rfl rfl rfl rfl ?_
              refine sU rfl rfl rfl rfl ?_
              refine sU rfl rfl rfl rfl ?_
              refine sN rfl rfl rfl rfl ?_
              refine sL (pkT rfl rfl) rfl ?_
              refine sL (mv rfl) rfl ?_
              refine sN rfl rfl rfl rfl ?_
              refine sN rfl rfl rfl rfl ?_
              refine sN rfl rfl rfl rfl ?_
              refine sN rfl rfl rfl rfl ?_
              refine sN rfl rfl rfl rfl ?_
              refine sN rfl rfl rfl rfl ?_
              refine sN rfl rfl rfl rfl ?_
              refine sL (pkT rfl rfl) rfl ?_
              refine lEnd (K := fun _ _ => True) ?_
              refine kN (?_)
              refine hK55 _ _ ?_
              refine cT rfl ?_
              refine cSeq (fun K62 hK62 => ?_)
              refine cRgn [] trivial ?_
              refine sL (asg rfl) rfl ?_
              refine lEnd (K := fun _ _ => True) ?_
              refine kN (?_)
              refine hK62 _ _ ?_
              refine cRet ?_
              have e_ := Hx2 _ (Option.some.inj H).symm
              subst e_
              replace H := Ho3
              obtain rfl := Option.some.inj H
              refine kR (jR (kR (kR (jR (kR (kR (?_)))))))
              refine ret1 rfl rfl ?_
              have HF40 := HF19.sublist (sl_da (sl_da (sl_da (List.Sublist.refl _))))
              have HF41 := Fits.conv (L' := ((N2 ++ N1) ++ F)) HF40 (by rw [hN1] <;> rfl)
              have HF42 := HF41.sublist (sl_da (List.Sublist.refl _))
              exact ⟨rfl, HF42⟩
          · replace H := itF c124 H
            refine cSet (i := 44) rfl (dF c124) ?_
            refine cF rfl ?_
            refine cExit ?_
            refine kX (kX (jX (kN (?_))))
            exact ofEnv (fun a hE => ⟨_, (Option.some.inj H).symm, ⟨_, _, L8, hE.keep (Keep.cons rfl (Keep.cons rfl (Keep.cons rfl (Keep.cons rfl (Keep.cons rfl (Keep.cons rfl (Keep.cons rfl (Keep.cons rfl (Keep.cons rfl (Keep.nil)))))))))), HF19, ho8⟩⟩)
        · rintro s3 a w20 rfl ⟨A89, c123, L8, hE, HF43, ho8⟩
          replace H := Ho3
          refine go_k hE ?_
          refine kN (?_)
          refine hK25 _ _ ?_
          refine cSeq (fun K63 hK63 => ?_)
          refine cSeq (fun K64 hK64 => ?_)
          refine cRgn [] trivial ?_
          refine sL (asg rfl) rfl ?_
          refine lEnd (K := fun _ _ => True) ?_
          refine kN (?_)
          refine hK64 _ _ ?_
          replace H := bnd H; obtain ⟨y6, J13, Ho4⟩ := H
          have HF72 := HF43.sublist (sl_a (sl_a (sl_da (List.Sublist.refl _))))
          refine cLoopB (f_plenumlaw14_AnswerLots.b2 a0 t9) (fun (s4 : (List T_api_Head) × Int) a w => ∃ (A205 : Option Addr) (c274 : Nat) (L16 : Hp), Env 194 [(0, .int .i64 a0), (1, .slice A_a1 a1.length c_a1), (2, .slice A_a2 a2.length c_a2), (6, .bool false), (8, .slice A89 s3.1.length c123), (9, .slice A205 s4.1.length c274), (11, .slice A11 t9.length c22), (13, .int .i64 s4.2)] a ∧ Fits z w (L16 ++ (L8 ++ (L2 ++ (N3 ++ F)))) ∧ OwnS k_T_api_Head L16 A205 c274 s4.1) J13 (fun a hE => ⟨none, 0, [], hE.keep (Keep.cons rfl (Keep.cons rfl (Keep.cons rfl (Keep.cons rfl (Keep.cons rfl (Keep.cons rfl (Keep.cons rfl (Keep.cons rfl (Keep.nil))))))))), HF72, OwnS.nil⟩) ?_ ?_
          · rintro s4 a w25 y7 ⟨A205, c274, L16, hE, HF48, ho16⟩ H Hx3
            refine go_ hE ?_
            refine cSeq (fun K89 hK89 => ?_)
            refine cSeq (fun K90 hK90 => ?_)
            refine cRgn [] trivial ?_
            refine sL (mv rfl) rfl ?_
            refine sL (mv rfl) rfl ?_
            refine sL (lnS rfl Try.underlying33) rfl ?_
            refine sL (bLss rfl rfl) rfl ?_
            refine lEnd (K := fun _ _ => True) ?_
            refine kN (?_)
            refine hK90 _ _ ?_
            by_cases c275 : s4.2 < (t9.length : Int)
            · replace H := itT c275 H
              refine cSet (i := 115) rfl (dT c275) ?_
              refine cT rfl ?_
              refine cSkip ?_
              refine kN (?_)
              refine hK89 _ _ ?_
              refine cSeq (fun K91 hK91 => ?_)
              refine cBlock ?_
              refine cSeq (fun K92 hK92 => ?_)
              refine cSeq (fun K93 hK93 => ?_)
              refine cRgn [(6, 124), (15, 133), (24, 142), (33, 151), (39, 157), (49, 167)] ⟨rfl, rfl, rfl, rfl, rfl, rfl, trivial⟩ ?_
              refine sL (mv rfl) rfl ?_
              refine sL (mv rfl) rfl ?_
              replace H := chk H; obtain ⟨c276, H⟩ := H
              obtain ⟨g9, o9, e98, rfl, hk49, q49⟩ := RdS.at_ hr10.rd c276 c275
              obtain ⟨A206, c277, A207, c278, A208, c279, A209, c280, rfl, hr191, hr192, hr193, hr194⟩ := rd_T_api_Packet hk49
              refine sL (ia rfl rfl Try.underlying33 ti38 c276 c275) rfl ?_
              refine sL (fa38_0 rfl) rfl ?_
              refine sL (ld rfl Try.underlying3 rfl (HF48.cells ((sub_a (sub_a sub_h))) (q49 0 _ rfl))) rfl ?_
              refine sL (bNeq rfl rfl) rfl ?_
              refine sL (mv rfl) rfl ?_
              by_cases c281 : ((rd t9 s4.2).f_Kind) = 5
              · replace H := itT c281 H
                refine lSet (i := 124) rfl (nF c281) ?_
                refine sG rfl rfl (mv rfl) rfl ?_
                refine sG rfl rfl (mv rfl) rfl ?_
                obtain ⟨e100, hk50, q50⟩ := RdS.at' hr10.rd c276 c275
                obtain ⟨A210, c282, A211, c283, A212, c284, A213, c285, rfl, hr195, hr196, hr197, hr198⟩ := rd_T_api_Packet hk50
                refine sG rfl rfl (ia rfl rfl Try.underlying33 ti38 c276 c275) rfl ?_
                refine sG rfl rfl (fa38_1 rfl) rfl ?_
                refine sG rfl rfl (ld rfl Try.underlying3 rfl (HF48.cells ((sub_a (sub_a sub_h))) (q50 1 _ rfl))) rfl ?_
                refine sG rfl rfl (mv rfl) rfl ?_
                refine sG rfl rfl (bNeq rfl rfl) rfl ?_
                refine sL (pkF rfl rfl) rfl ?_
                refine sL (mv rfl) rfl ?_
                by_cases c286 : ((rd t9 s4.2).f_Router) = a0
                · replace H := itT c286 H
                  refine lSet (i := 133) rfl (nF c286) ?_
                  refine sG rfl rfl (mv rfl) rfl ?_
                  refine sG rfl rfl (mv rfl) rfl ?_
                  obtain ⟨e102, hk51, q51⟩ := RdS.at' hr10.rd c276 c275
                  obtain ⟨A214, c287, A215, c288, A216, c289, A217, c290, rfl, hr199, hr200, hr201, hr202⟩ := rd_T_api_Packet hk51
                  refine sG rfl rfl (ia rfl rfl Try.underlying33 ti38 c276 c275) rfl ?_
                  refine sG rfl rfl (fa38_9 rfl) rfl ?_
                  refine sG rfl rfl (ld rfl Try.underlying23 rfl (HF48.cells ((sub_a (sub_a sub_h))) (q51 9 _ rfl))) rfl ?_
                  refine sG rfl rfl (lnS rfl Try.underlying23) rfl ?_
                  refine sG rfl rfl (bEql rfl rfl) rfl ?_
                  refine sL (pkF rfl rfl) rfl ?_
                  refine sL (mv rfl) rfl ?_
                  by_cases c291 : (((rd t9 s4.2).f_Heads).length : Int) = 0
                  · replace H := itT c291 H
                    refine lSet (i := 142) rfl (dT c291) ?_
                    refine sN rfl rfl rfl rfl ?_
                    refine sN rfl rfl rfl rfl ?_
                    refine sN rfl rfl rfl rfl ?_
                    refine sN rfl rfl rfl rfl ?_
                    refine sN rfl rfl rfl rfl ?_
                    refine sN rfl rfl rfl rfl ?_
                    refine sN rfl rfl rfl rfl ?_
                    refine sL (pkT rfl rfl) rfl ?_
                    refine sL (mv rfl) rfl ?_
                    refine sN rfl rfl rfl rfl ?_
                    refine sN rfl rfl rfl rfl ?_
                    refine sN rfl rfl rfl rfl ?_
                    refine sN rfl rfl rfl rfl ?_
                    refine sN rfl rfl rfl rfl ?_
                    refine sN rfl rfl rfl rfl ?_
                    refine sU rfl rfl rfl rfl ?_
                    refine sU rfl rfl rfl rfl ?_
                    refine sU rfl rfl rfl rfl ?_
                    refine sU rfl rfl rfl rfl ?_
                    refine sU rfl rfl rfl rfl ?_
                    refine sU rfl rfl rfl rfl ?_
                    refine sU rfl rfl rfl rfl ?_
                    refine sN rfl rfl rfl rfl ?_
                    refine sL (pkT rfl rfl) rfl ?_
                    refine sL (mv rfl) rfl ?_
                    refine sN rfl rfl rfl rfl ?_
                    refine sN rfl rfl rfl rfl ?_
                    refine sN rfl rfl rfl rfl ?_
                    refine sN rfl rfl rfl rfl ?_
                    refine sN rfl rfl rfl rfl ?_
                    refine sN rfl rfl rfl rfl ?_
                    refine sN rfl rfl rfl rfl ?_
                    refine sL (pkT rfl rfl) rfl ?_
                    refine lEnd (K := fun _ _ => True) ?_
                    refine kN (?_)
                    refine hK93 _ _ ?_
                    refine cT rfl ?_
                    refine cSeq (fun K94 hK94 => ?_)
                    refine cRgn [] trivial ?_
                    refine sL (asg rfl) rfl ?_
                    refine lEnd (K := fun _ _ => True) ?_
                    refine kN (?_)
                    refine hK94 _ _ ?_
                    refine cRet ?_
                    have e_ := Hx3 _ (Option.some.inj H).symm
                    subst e_
                    replace H := Ho4
                    obtain rfl := Option.some.inj H
                    refine kR (jR (kR (kR (jR (kR (kR (?_)))))))
                    refine ret1 rfl rfl ?_
                    have HF49 := HF48.sublist (sl_da (sl_da (sl_da (List.Sublist.refl _))))
                    have HF50 := Fits.conv (L' := ((N2 ++ N1) ++ F)) HF49 (by rw [hN1] <;> rfl)
                    have HF51 := HF50.sublist (sl_da (List.Sublist.refl _))
                    exact ⟨rfl, HF51⟩
                  · replace H := itF c291 H
                    refine lSet (i := 142) rfl (dF c291) ?_
                    refine sG rfl rfl (mv rfl) rfl ?_
                    refine sG rfl rfl (mv rfl) rfl ?_
                    obtain ⟨e104, hk52, q52⟩ := RdS.at' hr10.rd c276 c275
                    obtain ⟨A218, c292, A219, c293, A220, c294, A221, c295, rfl, hr203, hr204, hr205, hr206⟩ := rd_T_api_Packet hk52
                    refine sG rfl rfl (ia rfl rfl Try.underlying33 ti38 c276 c275) rfl ?_
                    refine sG rfl rfl (fa38_9 rfl) rfl ?_
                    refine sG rfl rfl (ld rfl Try.underlying23 rfl (HF48.cells ((sub_a (sub_a sub_h))) (q52 9 _ rfl))) rfl ?_
                    refine sG rfl rfl (lnS rfl Try.underlying23) rfl ?_
                    refine sG rfl rfl (bGtr rfl rfl) rfl ?_
                    refine sL (pkF rfl rfl) rfl ?_
                    refine sL (mv rfl) rfl ?_
                    by_cases c296 : 8 < (((rd t9 s4.2).f_Heads).length : Int)
                    · replace H := itT c296 H
                      refine lSet (i := 151) rfl (dT c296) ?_
                      refine sN rfl rfl rfl rfl ?_
                      refine sN rfl rfl rfl rfl ?_
                      refine sN rfl rfl rfl rfl ?_
                      refine sN rfl rfl rfl rfl ?_
                      refine sN rfl rfl rfl rfl ?_
                      refine sN rfl rfl rfl rfl ?_
                      refine sU rfl rfl rfl rfl ?_
                      refine sU rfl rfl rfl rfl ?_
                      refine sU rfl rfl rfl rfl ?_
                      refine sU rfl rfl rfl rfl ?_
                      refine sU rfl rfl rfl rfl ?_
                      refine sU rfl rfl rfl rfl ?_
                      refine sU rfl rfl rfl rfl ?_
                      refine sN rfl rfl rfl rfl ?_
                      refine sL (pkT rfl rfl) rfl ?_
                      refine sL (mv rfl) rfl ?_
                      refine sN rfl rfl rfl rfl ?_
                      refine sN rfl rfl rfl rfl ?_
                      refine sN rfl rfl rfl rfl ?_
                      refine sN rfl rfl rfl rfl ?_
                      refine sN rfl rfl rfl rfl ?_
                      refine sN rfl rfl rfl rfl ?_
                      refine sN rfl rfl rfl rfl ?_
                      refine sL (pkT rfl rfl) rfl ?_
                      refine lEnd (K := fun _ _ => True) ?_
                      refine kN (?_)
                      refine hK93 _ _ ?_
                      refine cT rfl ?_
                      refine cSeq (fun K95 hK95 => ?_)
                      refine cRgn [] trivial ?_
                      refine sL (asg rfl) rfl ?_
                      refine lEnd (K := fun _ _ => True) ?_
                      refine kN (?_)
                      refine hK95 _ _ ?_
                      refine cRet ?_
                      have e_ := Hx3 _ (Option.some.inj H).symm
                      subst e_
                      replace H := Ho4
                      obtain rfl := Option.some.inj H
                      refine kR (jR (kR (kR (jR (kR (kR (?_)))))))
                      refine ret1 rfl rfl ?_
                      have HF52 := HF48.sublist (sl_da (sl_da (sl_da (List.Sublist.refl _))))
                      have HF53 := Fits.conv (L' := ((N2 ++ N1) ++ F)) HF52 (by rw [hN1] <;> rfl)
                      have HF54 := HF53.sublist (sl_da (List.Sublist.refl _))
                      exact ⟨rfl, HF54⟩
                    · replace H := itF c296 H
                      refine lSet (i := 151) rfl (dF c296) ?_
                      refine sG rfl rfl (mv rfl) rfl ?_
                      refine sG rfl rfl (mv rfl) rfl ?_
                      refine sG rfl rfl (lnS rfl Try.underlying33) rfl ?_
                      refine sG rfl rfl (bSub rfl rfl) rfl ?_
                      refine sG rfl rfl (bLss rfl rfl) rfl ?_
                      refine sG rfl rfl (mv rfl) rfl ?_
                      by_cases c297 : s4.2 < (IntKind.i64.wrap ((t9.length : Int) - 1))
                      · replace H := itT c297 H
                        refine lSet (i := 157) rfl (dT c297) ?_
                        refine sG rfl rfl (mv rfl) rfl ?_
                        refine sG rfl rfl (mv rfl) rfl ?_
                        obtain ⟨e106, hk53, q53⟩ := RdS.at' hr10.rd c276 c275
                        obtain ⟨A222, c298, A223, c299, A224, c300, A225, c301, rfl, hr207, hr208, hr209, hr210⟩ := rd_T_api_Packet hk53
                        refine sG rfl rfl (ia rfl rfl Try.underlying33 ti38 c276 c275) rfl ?_
                        refine sG rfl rfl (fa38_9 rfl) rfl ?_
                        refine sG rfl rfl (ld rfl Try.underlying23 rfl (HF48.cells ((sub_a (sub_a sub_h))) (q53 9 _ rfl))) rfl ?_
                        refine sG rfl rfl (lnS rfl Try.underlying23) rfl ?_
                        refine sG rfl rfl (bNeq rfl rfl) rfl ?_
                        refine sG rfl rfl (pkT rfl rfl) rfl ?_
                        refine sL (pkF rfl rfl) rfl ?_
                        refine sL (mv rfl) rfl ?_
                        by_cases c302 : (((rd t9 s4.2).f_Heads).length : Int) = 8
                        · replace H := itT c302 H
                          refine lSet (i := 167) rfl (nF c302) ?_
                          refine sG rfl rfl (mv rfl) rfl ?_
                          refine sG rfl rfl (mv rfl) rfl ?_
                          obtain ⟨e108, hk54, q54⟩ := RdS.at' hr10.rd c276 c275
                          obtain ⟨A226, c303, A227, c304, A228, c305, A229, c306, rfl, hr211, hr212, hr213, hr214⟩ := rd_T_api_Packet hk54
                          refine sG rfl rfl (ia rfl rfl Try.underlying33 ti38 c276 c275) rfl ?_
                          refine sG rfl rfl (fa38_11 rfl) rfl ?_
                          refine sG rfl rfl (ld rfl Try.underlying22 rfl (HF48.cells ((sub_a (sub_a sub_h))) (q54 11 _ rfl))) rfl ?_
                          refine sG rfl rfl (lnS rfl Try.underlying22) rfl ?_
                          refine sG rfl rfl (bGtr rfl rfl) rfl ?_
                          refine sL (pkF rfl rfl) rfl ?_
                          refine lEnd (K := fun _ _ => True) ?_
                          refine kN (?_)
                          refine hK93 _ _ ?_
                          by_cases c307 : 0 < (((rd t9 s4.2).f_Lsas).length : Int)
                          · replace H := itT c307 H
                            refine cSet (i := 175) rfl (dT c307) ?_
                            refine cT rfl ?_
                            refine cSeq (fun K96 hK96 => ?_)
                            refine cRgn [] trivial ?_
                            refine sL (asg rfl) rfl ?_
                            refine lEnd (K := fun _ _ => True) ?_
                            refine kN (?_)
                            refine hK96 _ _ ?_
                            refine cRet ?_
                            have e_ := Hx3 _ (Option.some.inj H).symm
                            subst e_
                            replace H := Ho4
                            obtain rfl := Option.some.inj H
                            refine kR (jR (kR (kR (jR (kR (kR (?_)))))))
                            refine ret1 rfl rfl ?_
                            have HF55 := HF48.sublist (sl_da (sl_da (sl_da (List.Sublist.refl _))))
                            have HF56 := Fits.conv (L' := ((N2 ++ N1) ++ F)) HF55 (by rw [hN1] <;> rfl)
                            have HF57 := HF56.sublist (sl_da (List.Sublist.refl _))
                            exact ⟨rfl, HF57⟩
                          · replace H := itF c307 H
                            refine cSet (i := 175) rfl (dF c307) ?_
                            refine cF rfl ?_
                            refine cSkip ?_
                            refine kN (?_)
                            refine hK92 _ _ ?_
                            refine cRgn [] trivial ?_
                            refine sL (mv rfl) rfl ?_
                            refine sL (mv rfl) rfl ?_
                            refine sL (mv rfl) rfl ?_
                            obtain ⟨e110, hk55, q55⟩ := RdS.at' hr10.rd c276 c275
                            obtain ⟨A230, c308, A231, c309, A232, c310, A233, c311, rfl, hr215, hr216, hr217, hr218⟩ := rd_T_api_Packet hk55
                            refine sL (ia rfl rfl Try.underlying33 ti38 c276 c275) rfl ?_
                            refine sL (fa38_9 rfl) rfl ?_
                            refine sL (ld rfl Try.underlying23 rfl (HF48.cells ((sub_a (sub_a sub_h))) (q55 9 _ rfl))) rfl ?_
                            replace H := chk H; obtain ⟨c312, H⟩ := H
                            refine eW (oApp (xs := s4.1) (ys := ((rd t9 s4.2).f_Heads)) k_T_api_Head HF48 rfl rfl Try.underlying23 Try.underlying23 ti27 rfl ho16 (srcR shrF hr216 HF48 (sub_a (sub_a (sub_a (sub_n hG))))) c312 rfl) rfl ?_
                            rintro _ w26 ⟨L17, A234, c313, rfl, HF58, ho17⟩
                            refine sL (asg rfl) rfl ?_
                            refine lEnd (K := fun _ _ => True) ?_
                            refine jN (kN (?_))
                            refine hK91 _ _ ?_
                            refine cRgn [] trivial ?_
                            refine sL (mv rfl) rfl ?_
                            refine sL (bAdd rfl rfl) rfl ?_
                            refine sL (asg rfl) rfl ?_
                            refine lEnd (K := fun _ _ => True) ?_
                            refine kN (?_)
                            exact ofEnv (fun a hE => ⟨_, (Option.some.inj H).symm, ⟨_, _, L17, hE.keep (Keep.cons rfl (Keep.cons rfl (Keep.cons rfl (Keep.cons rfl (Keep.cons rfl (Keep.cons rfl (Keep.cons rfl (Keep.cons rfl (Keep.nil))))))))), HF58, ho17⟩⟩)
                        · replace H := itF c302 H
                          refine lSet (i := 167) rfl (nT c302) ?_
                          refine sN rfl rfl rfl rfl ?_
                          refine sN rfl rfl rfl rfl ?_
                          refine sN rfl rfl rfl rfl ?_
                          refine sN rfl rfl rfl rfl ?_
                          refine sN rfl rfl rfl rfl ?_
                          refine sN rfl rfl rfl rfl ?_
                          refine sN rfl rfl rfl rfl ?_
                          refine sL (pkT rfl rfl) rfl ?_
                          refine lEnd (K := fun _ _ => True) ?_
                          refine kN (?_)
                          refine hK93 _ _ ?_
                          refine cT rfl ?_
                          refine cSeq (fun K97 hK97 => ?_)
                          refine cRgn [] trivial ?_
                          refine sL (asg rfl) rfl ?_
                          refine lEnd (K := fun _ _ => True) ?_
                          refine kN (?_)
                          refine hK97 _ _ ?_
                          refine cRet ?_
                          have e_ := Hx3 _ (Option.some.inj H).symm
                          subst e_
                          replace H := Ho4
                          obtain rfl := Option.some.inj H
                          refine kR (jR (kR (kR (jR (kR (kR (?_)))))))
                          refine ret1 rfl rfl ?_
                          have HF59 := HF48.sublist (sl_da (sl_da (sl_da (List.Sublist.refl _))))
                          have HF60 := Fits.conv (L' := ((N2 ++ N1) ++ F)) HF59 (by rw [hN1] <;> rfl)
                          have HF61 := HF60.sublist (sl_da (List.Sublist.refl _))
                          exact ⟨rfl, HF61⟩
                      · replace H := itF c297 H
                        refine lSet (i := 157) rfl (dF c297) ?_
                        refine sN rfl rfl rfl rfl ?_
                        refine sN rfl rfl rfl rfl ?_
                        refine sN rfl rfl rfl rfl ?_
                        refine sN rfl rfl rfl rfl ?_
                        refine sN rfl rfl rfl rfl ?_
                        refine sN rfl rfl rfl rfl ?_
                        refine sN rfl rfl rfl rfl ?_
                        refine sG rfl rfl (pkF rfl rfl) rfl ?_
                        refine sL (pkF rfl rfl) rfl ?_
                        refine sL (mv rfl) rfl ?_
                        refine sG rfl rfl (mv rfl) rfl ?_
                        refine sG rfl rfl (mv rfl) rfl ?_
                        obtain ⟨e112, hk56, q56⟩ := RdS.at' hr10.rd c276 c275
                        obtain ⟨A235, c314, A236, c315, A237, c316, A238, c317, rfl, hr219, hr220, hr221, hr222⟩ := rd_T_api_Packet hk56
                        refine sG rfl rfl (ia rfl rfl Try.underlying33 ti38 c276 c275) rfl ?_
                        refine sG rfl rfl (fa38_11 rfl) rfl ?_
                        refine sG rfl rfl (ld rfl Try.underlying22 rfl (HF48.cells ((sub_a (sub_a sub_h))) (q56 11 _ rfl))) rfl ?_
                        refine sG rfl rfl (lnS rfl Try.underlying22) rfl ?_
                        refine sG rfl rfl (bGtr rfl rfl) rfl ?_
                        refine sL (pkF rfl rfl) rfl ?_
                        refine lEnd (K := fun _ _ => True) ?_
                        refine kN (?_)
                        refine hK93 _ _ ?_
                        by_cases c318 : 0 < (((rd t9 s4.2).f_Lsas).length : Int)
                        · replace H := itT c318 H
                          refine cSet (i := 175) rfl (dT c318) ?_
                          refine cT rfl ?_
                          refine cSeq (fun K98 hK98 => ?_)
                          refine cRgn [] trivial ?_
                          refine sL (asg rfl) rfl ?_
                          refine lEnd (K := fun _ _ => True) ?_
                          refine kN (?_)
                          refine hK98 _ _ ?_
                          refine cRet ?_
                          have e_ := Hx3 _ (Option.some.inj H).symm
                          subst e_
                          replace H := Ho4
                          obtain rfl := Option.some.inj H
                          refine kR (jR (kR (kR (jR (kR (kR (?_)))))))
                          refine ret1 rfl rfl ?_
                          have HF62 := HF48.sublist (sl_da (sl_da (sl_da (List.Sublist.refl _))))
                          have HF63 := Fits.conv (L' := ((N2 ++ N1) ++ F)) HF62 (by rw [hN1] <;> rfl)
                          have HF64 := HF63.sublist (sl_da (List.Sublist.refl _))
                          exact ⟨rfl, HF64⟩
                        · replace H := itF c318 H
                          refine cSet (i := 175) rfl (dF c318) ?_
                          refine cF rfl ?_
                          refine cSkip ?_
                          refine kN (?_)
                          refine hK92 _ _ ?_
                          refine cRgn [] trivial ?_
                          refine sL (mv rfl) rfl ?_
                          refine sL (mv rfl) rfl ?_
                          refine sL (mv rfl) rfl ?_
                          obtain ⟨e114, hk57, q57⟩ := RdS.at' hr10.rd c276 c275
                          obtain ⟨A239, c319, A240, c320, A241, c321, A242, c322, rfl, hr223, hr224, hr225, hr226⟩ := rd_T_api_Packet hk57
                          refine sL (ia rfl rfl Try.underlying33 ti38 c276 c275) rfl ?_
                          refine sL (fa38_9 rfl) rfl ?_
                          refine sL (ld rfl Try.underlying23 rfl (HF48.cells ((sub_a (sub_a sub_h))) (q57 9 _ rfl))) rfl ?_
                          replace H := chk H; obtain ⟨c323, H⟩ := H
                          refine eW (oApp (xs := s4.1) (ys := ((rd t9 s4.2).f_Heads)) k_T_api_Head HF48 rfl rfl Try.underlying23 Try.underlying23 ti27 rfl ho16 (srcR shrF hr224 HF48 (sub_a (sub_a (sub_a (sub_n hG))))) c323 rfl) rfl ?_
                          rintro _ w27 ⟨L18, A243, c324, rfl, HF65, ho18⟩
                          refine sL (asg rfl) rfl ?_
                          refine lEnd (K := fun _ _ => True) ?_
                          refine jN (kN (?_))
                          refine hK91 _ _ ?_
                          refine cRgn [] trivial ?_
                          refine sL (mv rfl) rfl ?_
                          refine sL (bAdd rfl rfl) rfl ?_
                          refine sL (asg rfl) rfl ?_
                          refine lEnd (K := fun _ _ => True) ?_
                          refine kN (?_)
                          exact ofEnv (fun a hE => ⟨_, (Option.some.inj H).symm, ⟨_, _, L18, hE.keep (Keep.cons rfl (Keep.cons rfl (Keep.cons rfl (Keep.cons rfl (Keep.cons rfl (Keep.cons rfl (Keep.cons rfl (Keep.cons rfl (Keep.nil))))))))), HF65, ho18⟩⟩)
                · replace H := itF c286 H
                  refine lSet (i := 133) rfl (nT c286) ?_
                  refine sN rfl rfl rfl rfl ?_
                  refine sN rfl rfl rfl rfl ?_
                  refine sN rfl rfl rfl rfl ?_
                  refine sN rfl rfl rfl rfl ?_
                  refine sN rfl rfl rfl rfl ?_
                  refine sN rfl rfl rfl rfl ?_
                  refine sN rfl rfl rfl rfl ?_
                  refine sL (pkT rfl rfl) rfl ?_
                  refine sL (mv rfl) rfl ?_
                  refine sN rfl rfl rfl rfl ?_
                  refine sN rfl rfl rfl rfl ?_
                  refine sN rfl rfl rfl rfl ?_
                  refine sN rfl rfl rfl rfl ?_
                  refine sN rfl rfl rfl rfl ?_
                  refine sN rfl rfl rfl rfl ?_
                  refine sN rfl rfl rfl rfl ?_
                  refine sL (pkT rfl rfl) rfl ?_
                  refine sL (mv rfl) rfl ?_
                  refine sN rfl rfl rfl rfl ?_
                  refine sN rfl rfl rfl rfl ?_
                  refine sN rfl rfl rfl rfl ?_
                  refine sN rfl rfl rfl rfl ?_
                  refine sN rfl rfl rfl rfl ?_
                  refine sN rfl rfl rfl rfl ?_
                  refine sU rfl rfl rfl rfl ?_
                  refine sU rfl rfl rfl rfl ?_
                  refine sU rfl rfl rfl rfl ?_
                  refine sU rfl rfl rfl rfl ?_
                  refine sU rfl rfl rfl rfl ?_
                  refine sU rfl rfl rfl rfl ?_
                  refine sU rfl rfl rfl rfl ?_
                  refine sN rfl rfl rfl rfl ?_
                  refine sL (pkT rfl rfl) rfl ?_
                  refine sL (mv rfl) rfl ?_
                  refine sN rfl rfl rfl rfl ?_
                  refine sN rfl rfl rfl rfl ?_
                  refine sN rfl rfl rfl rfl ?_
                  refine sN rfl rfl rfl rfl ?_
                  refine sN rfl rfl rfl rfl ?_
                  refine sN rfl rfl rfl rfl ?_
                  refine sN rfl rfl rfl rfl ?_
                  refine sL (pkT rfl rfl) rfl ?_
                  refine lEnd (K := fun _ _ => True) ?_
                  refine kN (?_)
                  refine hK93 _ _ ?_
                  refine cT rfl ?_
                  refine cSeq (fun K99 hK99 => ?_)
                  refine cRgn [] trivial ?_
                  refine sL (asg rfl) rfl ?_
                  refine lEnd (K := fun _ _ => True) ?_
                  refine kN (?_)
                  refine hK99 _ _ ?_
                  refine cRet ?_
                  have e_ := Hx3 _ (Option.some.inj H).symm
                  subst e_
                  replace H := Ho4
                  obtain rfl := Option.some.inj H
                  refine kR (jR (kR (kR (jR (kR (kR (?_)))))))
                  refine ret1 rfl rfl ?_
                  have HF66 := HF48.sublist (sl_da (sl_da (sl_da (List.Sublist.refl _))))
                  have HF67 := Fits.conv (L' := ((N2 ++ N1) ++ F)) HF66 (by rw [hN1] <;> rfl)
                  have HF68 := HF67.sublist (sl_da (List.Sublist.refl _))
                  exact ⟨rfl, HF68⟩
              · replace H := itF c281 H
                refine lSet (i := 124) rfl (nT c281) ?_
                refine sN rfl rfl rfl rfl ?_
                refine sN rfl rfl rfl rfl ?_
                refine sN rfl rfl rfl rfl ?_
                refine sN rfl rfl rfl rfl ?_
                refine sN rfl rfl rfl rfl ?_
                refine sN rfl rfl rfl rfl ?_
                refine sN rfl rfl rfl rfl ?_
                refine sL (pkT rfl rfl) rfl ?_
                refine sL (mv rfl) rfl ?_
                refine sN rfl rfl rfl rfl ?_
                refine sN rfl rfl rfl rfl ?_
                refine sN rfl rfl rfl rfl ?_
                refine sN rfl rfl rfl rfl ?_
                refine sN rfl rfl rfl rfl ?_
                refine sN rfl rfl rfl rfl ?_
                refine sN rfl rfl rfl rfl ?_
                refine sL (pkT rfl rfl) rfl ?_
                refine sL (mv rfl) rfl ?_
                refine sN rfl rfl rfl rfl ?_
                refine sN rfl rfl rfl rfl ?_
                refine sN rfl rfl rfl rfl ?_
                refine sN rfl rfl rfl rfl ?_
                refine sN rfl rfl rfl rfl ?_
                refine sN rfl rfl rfl rfl ?_
                refine sN rfl rfl rfl rfl ?_
                refine sL (pkT rfl rfl) rfl ?_
                refine sL (mv rfl) rfl ?_
                refine sN rfl rfl rfl rfl ?_
                refine sN rfl rfl rfl rfl ?_
                refine sN rfl rfl rfl rfl ?_
                refine sN rfl rfl rfl rfl ?_
                refine sN rfl rfl rfl rfl ?_
                refine sN rfl rfl rfl rfl ?_
                refine sU rfl rfl rfl rfl ?_
                refine sU rfl rfl rfl rfl ?_
                refine sU rfl rfl rfl rfl ?_
                refine sU rfl rfl rfl rfl ?_
                refine sU rfl rfl rfl rfl ?_
                refine sU rfl rfl rfl rfl ?_
                refine sU rfl rfl rfl rfl ?_
                refine sN rfl rfl rfl rfl ?_
                refine sL (pkT rfl rfl) rfl ?_
                refine sL (mv rfl) rfl ?_
                refine sN rfl rfl rfl rfl ?_
                refine sN rfl rfl rfl rfl ?_
                refine sN rfl rfl rfl rfl ?_
                refine sN rfl rfl rfl rfl ?_
                refine sN rfl rfl rfl rfl ?_
                refine sN rfl rfl rfl rfl ?_
                refine sN rfl rfl rfl rfl ?_
                refine sL (pkT rfl rfl) rfl ?_
                refine lEnd (K := fun _ _ => True) ?_
                refine kN (?_)
                refine hK93 _ _ ?_
                refine cT rfl ?_
                refine cSeq (fun K100 hK100 => ?_)
                refine cRgn [] trivial ?_
                refine sL (asg rfl) rfl ?_
                refine lEnd (K := fun _ _ => True) ?_
                refine kN (?_)
                refine hK100 _ _ ?_
                refine cRet ?_
                have e_ := Hx3 _ (Option.some.inj H).symm
                subst e_
                replace H := Ho4
                obtain rfl := Option.some.inj H
                refine kR (jR (kR (kR (jR (kR (kR (?_)))))))
                refine ret1 rfl rfl ?_
                have HF69 := HF48.sublist (sl_da (sl_da (sl_da (List.Sublist.refl _))))
                have HF70 := Fits.conv (L' := ((N2 ++ N1) ++ F)) HF69 (by rw [hN1] <;> rfl)
                have HF71 := HF70.sublist (sl_da (List.Sublist.refl _))
                exact ⟨rfl, HF71⟩
            · replace H := itF c275 H
              refine cSet (i := 115) rfl (dF c275) ?_
              refine cF rfl ?_
              refine cExit ?_
              refine kX (kX (jX (kN (?_))))
              exact ofEnv (fun a hE => ⟨_, (Option.some.inj H).symm, ⟨_, _, L16, hE.keep (Keep.cons rfl (Keep.cons rfl (Keep.cons rfl (Keep.cons rfl (Keep.cons rfl (Keep.cons rfl (Keep.cons rfl (Keep.cons rfl (Keep.nil))))))))), HF48, ho16⟩⟩)
          · rintro s4 a w28 rfl ⟨A205, c274, L16, hE, HF73, ho16⟩
            replace H := Ho4
            refine go_k hE ?_
            refine kN (?_)
            refine hK63 _ _ ?_
            refine cSeq (fun K101 hK101 => ?_)
            refine cRgn [(3, 186), (8, 191)] ⟨rfl, rfl, trivial⟩ ?_
            refine sL (mv rfl) rfl ?_
            refine sL (mv rfl) rfl ?_
            replace H := bnd H; obtain ⟨t10, J10, H⟩ := H
            refine eCall isf9 rfl rfl rfl (f_plenumref1_Lsas.ok (a0 := s3.1) (a1 := a1) (sub_a (sub_a (sub_a (sub_n hG)))) J10 HF73 (sub_a sub_h) ho8.rd (sub_a (sub_a (sub_a (sub_a hX_a1)))) (RdS.lift hr_a1 (sub_t hs1 hs2) sub_r)) ?_
            rintro _ w29 ⟨rfl, HF74⟩
            refine ⟨_, rfl, ?_⟩
            refine sL (mv rfl) rfl ?_
            by_cases c325 : t10 = true
            · replace H := itT c325 H
              refine lSet (i := 186) rfl (vT c325) ?_
              refine sG rfl rfl (mv rfl) rfl ?_
              refine sG rfl rfl (mv rfl) rfl ?_
              replace H := bnd H; obtain ⟨t11, J11, H⟩ := H
              refine eCallG rfl rfl isf10 rfl rfl rfl (f_plenumref1_Heads.ok (a0 := s4.1) (a1 := a2) (sub_a (sub_a (sub_a (sub_n hG)))) J11 HF74 sub_h ho16.rd (sub_a (sub_a (sub_a (sub_a hX_a2)))) hr_a2) ?_
              rintro _ w30 ⟨rfl, HF75⟩
              refine ⟨_, rfl, ?_⟩
              refine sL (pkT rfl rfl) rfl ?_
              refine sL (mv rfl) rfl ?_
              by_cases c326 : t11 = true
              · replace H := itT c326 H
                refine lSet (i := 191) rfl (vT c326) ?_
                replace H := bnd H; obtain ⟨t12, J12, H⟩ := H
                refine eCallG rfl rfl isf5 rfl rfl rfl (f_plenumlaw14_awake.ok (sub_a (sub_a (sub_a (sub_n hG)))) J12 HF75) ?_
                rintro _ w31 ⟨rfl, HF76⟩
                refine ⟨_, rfl, ?_⟩
                refine sL (pkT rfl rfl) rfl ?_
                refine sL (asg rfl) rfl ?_
                refine lEnd (K := fun _ _ => True) ?_
                refine kN (?_)
                refine hK101 _ _ ?_
                refine cRet ?_
                obtain rfl := Option.some.inj H
                refine ret1 rfl rfl ?_
                have HF77 := HF76.sublist (sl_da (sl_da (sl_da (List.Sublist.refl _))))
                have HF78 := Fits.conv (L' := ((N2 ++ N1) ++ F)) HF77 (by rw [hN1] <;> rfl)
                have HF79 := HF78.sublist (sl_da (List.Sublist.refl _))
                exact ⟨rfl, HF79⟩
              · replace H := itF c326 H
                refine lSet (i := 191) rfl (vF c326) ?_
                refine sN rfl rfl rfl rfl ?_
                refine sL (pkF rfl rfl) rfl ?_
                refine sL (asg rfl) rfl ?_
                refine lEnd (K := fun _ _ => True) ?_
                refine kN (?_)
                refine hK101 _ _ ?_
                refine cRet ?_
                obtain rfl := Option.some.inj H
                refine ret1 rfl rfl ?_
                have HF80 := HF75.sublist (sl_da (sl_da (sl_da (List.Sublist.refl _))))
                have HF81 := Fits.conv (L' := ((N2 ++ N1) ++ F)) HF80 (by rw [hN1] <;> rfl)
                have HF82 := HF81.sublist (sl_da (List.Sublist.refl _))
                exact ⟨rfl, HF82⟩
            · replace H := itF c325 H
              refine lSet (i := 186) rfl (vF c325) ?_
              refine sN rfl rfl rfl rfl ?_
              refine sN rfl rfl rfl rfl ?_
              refine sN rfl rfl rfl rfl ?_
              refine sL (pkF rfl rfl) rfl ?_
              refine sL (mv rfl) rfl ?_
              refine sN rfl rfl rfl rfl ?_
              refine sL (pkF rfl rfl) rfl ?_
              refine sL (asg rfl) rfl ?_
              refine lEnd (K := fun _ _ => True) ?_
              refine kN (?_)
              refine hK101 _ _ ?_
              refine cRet ?_
              obtain rfl := Option.some.inj H
              refine ret1 rfl rfl ?_
              have HF83 := HF74.sublist (sl_da (sl_da (sl_da (List.Sublist.refl _))))
              have HF84 := Fits.conv (L' := ((N2 ++ N1) ++ F)) HF83 (by rw [hN1] <;> rfl)
              have HF85 := HF84.sublist (sl_da (List.Sublist.refl _))
              exact ⟨rfl, HF85⟩
end Go.Proofs.Ytjmkalkckpffiaa
