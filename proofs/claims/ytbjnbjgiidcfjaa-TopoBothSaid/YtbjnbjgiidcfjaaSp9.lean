/- The walk's own rules, part 9: deeds of one form in all places; slices that are cut, grown, copied, written. -/
import Derived.Test.YtbjnbjgiidcfjaaSp8
set_option linter.unusedVariables false
set_option linter.unusedSimpArgs false
namespace Go.Proofs.Ytbjnbjgiidcfjaa.Sp
open Go
section
variable {P : Program} {n : Nat} {dm : List (Nat × Nat)} {l : List Oper} {ops : Array Oper} {S : World → Prop} {fuel : Nat} {listed listed' : Array Bool} {E : List (Nat × Value)} {z w : World} {Q : Exit → Act → World → Prop} {op : Op} {ty : TypeId} {pos : String} {af : Array Edge} {v u : Value} {d i : Nat} {x y : Operand} {t e : TypeId}

/-! ### Deeds: in the order of the text, behind a guard, in a region that draws -/
theorem eW {Po : Value → World → Prop} (h : ∃ v w', RunW P E w op v w' ∧ Po v w') (hd : Nat.blt d n = true) (k : ∀ v w', Po v w' → WL P n dm l ((d, v) :: E) w' Q) : WL P n dm (⟨some d, op, ty, pos, af, none⟩ :: l) E w Q := by
  obtain ⟨v, w', h, hp⟩ := h
  exact sW h hd (k v w' hp)
theorem eWG {Po : Value → World → Prop} {j kk : Nat} {b : Bool} (hj : (dm.find? (fun p => Nat.beq p.1 j)).map (·.2) = some kk) (hb : lk E kk = some (.bool b)) (h : ∃ v w', RunW P E w op v w' ∧ Po v w') (hd : Nat.blt d n = true) (k : ∀ v w', Po v w' → WL P n dm l ((d, v) :: E) w' Q) : WL P n dm (⟨some d, op, ty, pos, af, some (j, b)⟩ :: l) E w Q := by
  obtain ⟨v, w', h, hp⟩ := h
  exact sWG hj hb h hd (k v w' hp)
theorem hW {Po : Value → World → Prop} (i : Nat) (hi : ops[i]? = some ⟨some d, op, ty, pos, af, none⟩) (hr : Region.ready .any ops listed = [i]) (hl : listed.setIfInBounds i true = listed') (h : ∃ v w', RunW P E w op v w' ∧ Po v w') (hd : Nat.blt d n = true)
    (k : ∀ v w', Po v w' → S w' ∧ WH P n ops S fuel listed' ((d, v) :: E) w' Q) : WH P n ops S (fuel + 1) listed E w Q := by
  obtain ⟨v, w', h, hp⟩ := h
  refine hOne i hi hr hl ?_
  intro a hE
  unfold wpOp
  simp only [hi, Region.wanted, if_true]
  refine .inl ?_
  simp only [Oper.wp, h n a _ _ _ _ _ hE, Oper.upon]
  exact ⟨(k v w' hp).1, (k v w' hp).2 _ (hE.put hd v)⟩
theorem hWG {Po : Value → World → Prop} (i : Nat) {j kk : Nat} {b : Bool} (hi : ops[i]? = some ⟨some d, op, ty, pos, af, some (j, b)⟩) (hj : (ops[j]?).bind (·.dst) = some kk) (hb : lk E kk = some (.bool b)) (hr : Region.ready .any ops listed = [i]) (hl : listed.setIfInBounds i true = listed') (h : ∃ v w', RunW P E w op v w' ∧ Po v w') (hd : Nat.blt d n = true)
    (k : ∀ v w', Po v w' → S w' ∧ WH P n ops S fuel listed' ((d, v) :: E) w' Q) : WH P n ops S (fuel + 1) listed E w Q := by
  obtain ⟨v, w', h, hp⟩ := h
  refine hOne i hi hr hl ?_
  intro a hE
  have hy := yielded_of hE hj hb
  unfold wpOp
  simp only [hi, Region.wanted, hy, beq_self_eq_true, if_true]
  refine .inl ?_
  simp only [Oper.wp, h n a _ _ _ _ _ hE, Oper.upon]
  exact ⟨(k v w' hp).1, (k v w' hp).2 _ (hE.put hd v)⟩
theorem eS {Po : World → Prop} (h : ∃ w', RunS P E w op w' ∧ Po w') (k : ∀ w', Po w' → WL P n dm l E w' Q) : WL P n dm (⟨none, op, ty, pos, af, none⟩ :: l) E w Q := by
  obtain ⟨w', h, hp⟩ := h
  exact sS h (k w' hp)
theorem eSG {Po : World → Prop} {j kk : Nat} {b : Bool} (hj : (dm.find? (fun p => Nat.beq p.1 j)).map (·.2) = some kk) (hb : lk E kk = some (.bool b)) (h : ∃ w', RunS P E w op w' ∧ Po w') (k : ∀ w', Po w' → WL P n dm l E w' Q) : WL P n dm (⟨none, op, ty, pos, af, some (j, b)⟩ :: l) E w Q := by
  obtain ⟨w', h, hp⟩ := h
  exact sSG hj hb h (k w' hp)
theorem hS_ {Po : World → Prop} (i : Nat) (hi : ops[i]? = some ⟨none, op, ty, pos, af, none⟩) (hr : Region.ready .any ops listed = [i]) (hl : listed.setIfInBounds i true = listed') (h : ∃ w', RunS P E w op w' ∧ Po w')
    (k : ∀ w', Po w' → S w' ∧ WH P n ops S fuel listed' E w' Q) : WH P n ops S (fuel + 1) listed E w Q := by
  obtain ⟨w', h, hp⟩ := h
  refine hOne i hi hr hl ?_
  intro a hE
  unfold wpOp
  simp only [hi, Region.wanted, if_true]
  refine .inl ?_
  simp only [Oper.wp, h n a _ _ _ _ _ hE, Oper.upon, Act.put]
  exact ⟨(k w' hp).1, (k w' hp).2 _ hE⟩
/-- A value that is put away (an operation without a slot). -/
theorem eW0 {Po : Value → World → Prop} (h : ∃ v w', RunW P E w op v w' ∧ Po v w') (k : ∀ v w', Po v w' → WL P n dm l E w' Q) : WL P n dm (⟨none, op, ty, pos, af, none⟩ :: l) E w Q := by
  obtain ⟨v, w', h, hp⟩ := h
  intro ops a hdm hE
  simp only [wpList, Region.wanted, if_true]
  refine .inl ?_
  simp only [Oper.wp, h n a _ _ _ _ _ hE, Oper.upon, Act.put]
  exact k v w' hp ops _ hdm hE

variable {L Lo R X Y G G' X' : Hp} {α : Type} {K K' : Kd α} {A A2 : Option Addr} {c c2 g o : Nat} {xs ys : List α} {cs : List Value} {h m lo hi : Int}
theorem oBox (HF : Fits z w L) (hx : lv E x = some v) : ∃ u w', RunW P E w (.box t x) u w' ∧ ∃ g, u = .pointer (some ⟨g, 0, none⟩) ∧ Fits z w' (bk g t (cellsL v) :: L) :=
  ⟨_, _, rBox hx, _, rfl, HF.alloc _⟩
theorem oAlloc (HF : Fits z w L) {ds : TypeDesc} {zv : Value} {sz by_ : Nat} (TT : TI P t ds zv sz by_) : ∃ u w', RunW P E w (.alloc t) u w' ∧ ∃ g, u = .pointer (some ⟨g, 0, none⟩) ∧ Fits z w' (bk g t (cellsL zv) :: L) :=
  ⟨_, _, rAlloc TT, _, rfl, HF.alloc _⟩
theorem oSt {T : TypeId} {ds : TypeDesc} {zv : Value} {sz by_ : Nat} {l0 l1 : List Value} (HF : Fits z w (bk g T l0 :: R)) (hx : lv E x = some (.pointer (some ⟨g, o, none⟩))) (hy : lv E y = some v) (TT : TI P t ds zv sz by_) (hl : (cellsL v).length = sz) (h1 : ∀ u ∈ cellsL v, u.oneCell' = true) (hb : o + sz ≤ l0.length) (he : putSeg l0 o (cellsL v) = l1) :
    ∃ w', RunS P E w (.store t x y) w' ∧ Fits z w' (bk g T l1 :: R) := by
  subst he
  refine ⟨w.setRow g (putSeg l0 o (cellsL v)).toArray, fun n a _ _ _ _ _ hE => ?_, HF.setRow⟩
  simp [execOp, hE.ev hx, hE.ev hy, Instr.storeAt, Instr.sureAddr, storeVar_run HF TT hl h1 hb]
theorem oSt1 {T : TypeId} {ds : TypeDesc} {zv : Value} {by_ : Nat} {l0 l1 : List Value} (HF : Fits z w (bk g T l0 :: R)) (hx : lv E x = some (.pointer (some ⟨g, o, none⟩))) (hy : lv E y = some v) (TT : TI P t ds zv 1 by_) (h1 : v.oneCell' = true) (hb : Nat.blt o l0.length = true) (he : l0.set o v = l1) :
    ∃ w', RunS P E w (.store t x y) w' ∧ Fits z w' (bk g T l1 :: R) := by
  have hc : cellsL v = [v] := by cases v <;> first | rfl | (simp [Value.oneCell'] at h1; done)
  have hb' : o < l0.length := by
    have := hb
    simp [Nat.blt] at this
    omega
  refine oSt HF hx hy TT (by rw [hc]; rfl) (by rw [hc]; intro u hu; simp at hu; subst hu; exact h1) (by omega) ?_
  rw [hc, ← he, putSeg, List.set_eq_take_append_cons_drop, if_pos hb']
  simp

/-! ### Facts that go over to a wider memory -/
theorem OwnE.imp (f : ∀ L cs x, K.own L cs x → K'.own L cs x) : ∀ {xs : List α} {L : Hp} {cs : List Value}, OwnE K L cs xs → OwnE K' L cs xs
  | [], _, _, h => h
  | _ :: _, _, _, ⟨L1, L2, c1, c2, e1, e2, h1, h2⟩ => ⟨L1, L2, c1, c2, e1, e2, f _ _ _ h1, OwnE.imp f h2⟩
theorem OwnS.imp (f : ∀ L cs x, K.own L cs x → K'.own L cs x) (hs : K.sz = K'.sz) (H : OwnS K L A c xs) : OwnS K' L A c xs := by
  rcases H with hn | ⟨g, o, arr, T, Lr, rfl, rfl, hl, hm, hz, he⟩
  · exact .inl hn
  · exact .inr ⟨g, o, arr, T, Lr, rfl, rfl, hl, hm, hs ▸ hz, by rw [← hs]; exact he.imp f⟩
theorem OwnS.lift (H : OwnS (kShr G K) L A c xs) (hG : G ⊆ G') : OwnS (kShr G' K) L A c xs := H.imp (K := kShr G K) (K' := kShr G' K) (fun L cs x h => ⟨h.1, K.mono h.2 hG⟩) rfl
theorem RdS.lift (H : RdS (kShr G K) X A c xs) (hG : G ⊆ G') (hX : X ⊆ X') : RdS (kShr G' K) X' A c xs := by
  refine ⟨H.1, ?_⟩
  rcases H.2 with hn | ⟨g, o, rfl, hh⟩
  · exact .inl hn
  · exact .inr ⟨g, o, rfl, fun i x hi => by
      obtain ⟨cs, h1, h2⟩ := hh i x hi
      exact ⟨cs, K.mono h1 hG, fun j v hv => (h2 j v hv).mono hX⟩⟩
/-- What is frozen: N grows by L. -/
theorem sub_n {N : Hp} (h : G ⊆ G') : N ++ G ⊆ N ++ G' := by
  intro p hp
  rcases List.mem_append.1 hp with hp | hp
  · exact List.mem_append_left _ hp
  · exact List.mem_append_right _ (h hp)
theorem sub_t {A B C : Hp} (h : A ⊆ B) (k : B ⊆ C) : A ⊆ C := fun _ hx => k (h hx)
theorem frz_s {N N' : Hp} (h : N' = L ++ N) : N ++ G ⊆ N' ++ G := by subst h; rw [List.append_assoc]; exact sub_a sub_r
theorem frz_l {N N' : Hp} (h : N' = L ++ N) : L ⊆ N' ++ G := by subst h; rw [List.append_assoc]; exact sub_h
theorem frz_c {N N' : Hp} (h : N' = L ++ N) : L ++ (N ++ G) ⊆ N' ++ G := by subst h; rw [List.append_assoc]; exact sub_r

theorem Fits.conv {L' : Hp} (H : Fits z w L) (e : L = L') : Fits z w L' := e ▸ H
theorem sl_a {A R R' : Hp} (h : R'.Sublist R) : (A ++ R').Sublist (A ++ R) := List.Sublist.append_left h A
theorem sl_c {p : Nat × Obj} {R R' : Hp} (h : R'.Sublist R) : (p :: R').Sublist (p :: R) := List.Sublist.cons_cons p h
theorem sl_da {A R R' : Hp} (h : R'.Sublist R) : R'.Sublist (A ++ R) := h.trans (List.sublist_append_right A R)
theorem sl_dc {p : Nat × Obj} {R R' : Hp} (h : R'.Sublist R) : R'.Sublist (p :: R) := List.Sublist.cons p h
theorem pm_a {A R R' : Hp} (h : R.Perm R') : (A ++ R).Perm (A ++ R') := h.append_left A
theorem pm_c {p : Nat × Obj} {R R' : Hp} (h : R.Perm R') : (p :: R).Perm (p :: R') := h.cons p
theorem Fits.sublist {L' : Hp} (H : Fits z w L) (h : L'.Sublist L) : Fits z w L' := ⟨H.os, H.tape, H.output, (h.map _).nodup H.nodup, fun p hp => H.here p (h.subset hp)⟩

/-! ### Cutting -/
def cutL (xs : List α) (lo hi : Int) : List α := (xs.take hi.toNat).drop lo.toNat
theorem len_cutL (h0 : 0 ≤ lo) (h1 : lo ≤ hi) (h2 : hi ≤ xs.length) : (cutL xs lo hi).length = hi.toNat - lo.toNat := by
  unfold cutL; rw [List.length_drop, List.length_take]; omega
def cutA (A : Option Addr) (k q : Nat) : Option Addr := if k = 0 then A else A.map (·.add q)
def lvo (E : List (Nat × Value)) : Option Operand → Int → Option Int
  | none, d => some d
  | some x, _ => match lv E x with
    | some (.int _ i) => some i
    | _ => none
theorem lvo_some {q : Option Operand} {d r : Int} (H : lvo E q d = some r) : (q = none ∧ r = d) ∨ ∃ x k, q = some x ∧ lv E x = some (.int k r) := by
  cases q with
  | none => left; exact ⟨rfl, by simp [lvo] at H; exact H.symm⟩
  | some x =>
    right
    simp only [lvo] at H
    split at H
    · rename_i k i hk
      obtain rfl := Option.some.inj H
      exact ⟨x, k, rfl, hk⟩
    · cases H
theorem bound_run {k : IntKind} {i : Int} {q : Nat} {code : BoundsCode} (h0 : 0 ≤ i) (h1 : i ≤ q) : (Instr.sliceBound (.int k i) q code).run P w = .ok i.toNat w := by
  simp [Instr.sliceBound, asIntOf, h0, h1]
theorem slcN {q1 q2 : Option Operand} {ds : TypeDesc} {zv : Value} {sz by_ : Nat} (xs : List α) (hx : lv E x = some (.slice A xs.length c)) (hu : P.underlying t = some (.slice e)) (TT : TI P e ds zv sz by_) (hlo : lvo E q1 0 = some lo) (hhi : lvo E q2 xs.length = some hi) (hc : xs.length ≤ c) (h0 : 0 ≤ lo) (h1 : lo ≤ hi) (h2 : hi ≤ xs.length) :
    Run P E w (.slice t x q1 q2 none) (.slice (cutA A (c - lo.toNat) (lo.toNat * sz)) (cutL xs lo hi).length (c - lo.toNat)) := fun n a _ _ _ _ _ hE => by
  rw [len_cutL h0 h1 h2]
  have hbb : (Instr.sliceBounds true xs.length c (q1.map a.eval) (q2.map a.eval) none).run P w = .ok (lo.toNat, hi.toNat, c) w := by
    rcases lvo_some hlo with ⟨rfl, rfl⟩ | ⟨x1, k1, rfl, e1⟩ <;> rcases lvo_some hhi with ⟨rfl, rfl⟩ | ⟨x2, k2, rfl, e2⟩
    · simp [Instr.sliceBounds]
    · simp [Instr.sliceBounds, hE.ev e2, bound_run (P := P) (w := w) (k := k2) (Int.le_trans h0 h1) (show hi ≤ (c : Int) by omega)]
    · simp [Instr.sliceBounds, hE.ev e1, bound_run (P := P) (w := w) (k := k1) h0 (show lo ≤ (xs.length : Int) by omega)]
    · simp [Instr.sliceBounds, hE.ev e1, hE.ev e2, bound_run (P := P) (w := w) (k := k2) (Int.le_trans h0 h1) (show hi ≤ (c : Int) by omega), bound_run (P := P) (w := w) (k := k1) h0 (show lo ≤ (hi.toNat : Int) by omega)]
  have hrun : (Instr.sliceAt t (.slice A xs.length c) (q1.map a.eval) (q2.map a.eval) none).run P w = .ok (.slice (cutA A (c - lo.toNat) (lo.toNat * sz)) (hi.toNat - lo.toNat) (c - lo.toNat)) w := by
    have hz : (c = lo.toNat) ↔ (c - lo.toNat = 0) := by omega
    simp only [Instr.sliceAt, Instr.slice, Sem.run_bind, run_underlying hu, Result.andThen_ok, hbb, TT.size w, Sem.run_pure, cutA]
    by_cases hcz : c = lo.toNat
    · rw [if_pos hcz, if_pos (hz.1 hcz)]
    · rw [if_neg hcz, if_neg (fun q => hcz (hz.2 q))]
  simp [execOp, hE.ev hx, hrun]
/-- .. with its room told: it ends where its elements end. -/
theorem slcM {q1 : Option Operand} {y : Operand} {k : IntKind} {ds : TypeDesc} {zv : Value} {sz by_ : Nat} (xs : List α) (hx : lv E x = some (.slice A xs.length c)) (hu : P.underlying t = some (.slice e)) (TT : TI P e ds zv sz by_) (hlo : lvo E q1 0 = some lo) (hy : lv E y = some (.int k hi)) (hc : xs.length ≤ c) (h0 : 0 ≤ lo) (h1 : lo ≤ hi) (h2 : hi ≤ xs.length) {y2 : Operand} {k2 : IntKind} (hy2 : lv E y2 = some (.int k2 hi)) :
    Run P E w (.slice t x q1 (some y) (some y2)) (.slice (cutA A (hi.toNat - lo.toNat) (lo.toNat * sz)) (cutL xs lo hi).length (hi.toNat - lo.toNat)) := fun n a _ _ _ _ _ hE => by
  rw [len_cutL h0 h1 h2]
  have hbb : (Instr.sliceBounds true xs.length c (q1.map a.eval) (some (a.eval y)) (some (a.eval y2))).run P w = .ok (lo.toNat, hi.toNat, hi.toNat) w := by
    rcases lvo_some hlo with ⟨rfl, rfl⟩ | ⟨x1, k1, rfl, e1⟩
    · simp [Instr.sliceBounds, hE.ev hy, hE.ev hy2, bound_run (P := P) (w := w) (k := k2) (Int.le_trans h0 h1) (show hi ≤ (c : Int) by omega), bound_run (P := P) (w := w) (k := k) (Int.le_trans h0 h1) (show hi ≤ (hi.toNat : Int) by omega)]
    · simp [Instr.sliceBounds, hE.ev e1, hE.ev hy, hE.ev hy2, bound_run (P := P) (w := w) (k := k2) (Int.le_trans h0 h1) (show hi ≤ (c : Int) by omega), bound_run (P := P) (w := w) (k := k) (Int.le_trans h0 h1) (show hi ≤ (hi.toNat : Int) by omega), bound_run (P := P) (w := w) (k := k1) h0 (show lo ≤ (hi.toNat : Int) by omega)]
  have hrun : (Instr.sliceAt t (.slice A xs.length c) (q1.map a.eval) (some (a.eval y)) (some (a.eval y2))).run P w = .ok (.slice (cutA A (hi.toNat - lo.toNat) (lo.toNat * sz)) (hi.toNat - lo.toNat) (hi.toNat - lo.toNat)) w := by
    have hz : (hi.toNat = lo.toNat) ↔ (hi.toNat - lo.toNat = 0) := by omega
    simp only [Instr.sliceAt, Instr.slice, Sem.run_bind, run_underlying hu, Result.andThen_ok, hbb, TT.size w, Sem.run_pure, cutA]
    by_cases hcz : hi.toNat = lo.toNat
    · rw [if_pos hcz, if_pos (hz.1 hcz)]
    · rw [if_neg hcz, if_neg (fun q => hcz (hz.2 q))]
  simp [execOp, hE.ev hx, hrun]
theorem RdS.cut (H : RdS K X A c xs) (h0 : 0 ≤ lo) (h1 : lo ≤ hi) (h2 : hi ≤ xs.length) {q : Nat} (hq : hi.toNat - lo.toNat ≤ q) : RdS K X (cutA A q (lo.toNat * K.sz)) q (cutL xs lo hi) := by
  refine ⟨by rw [len_cutL h0 h1 h2]; exact hq, ?_⟩
  rcases H.2 with rfl | ⟨g, o, rfl, hh⟩
  · left; simp [cutL]
  · by_cases hz : q = 0
    · left
      apply List.eq_nil_of_length_eq_zero
      rw [len_cutL h0 h1 h2]; omega
    · right
      refine ⟨g, o + lo.toNat * K.sz, by rw [cutA, if_neg hz]; simp [add_mk], fun i x hi' => ?_⟩
      rw [cutL, List.getElem?_drop, List.getElem?_take] at hi'
      split at hi'
      · obtain ⟨cs, k1, k2⟩ := hh _ _ hi'
        refine ⟨cs, k1, fun j v hv => ?_⟩
        have := k2 j v hv
        rw [Nat.add_mul, ← Nat.add_assoc] at this
        exact this
      · cases hi'
theorem RdS.cutN (H : RdS K X A c xs) (h0 : 0 ≤ lo) (h1 : lo ≤ hi) (h2 : hi ≤ xs.length) : RdS K X (cutA A (c - lo.toNat) (lo.toNat * K.sz)) (c - lo.toNat) (cutL xs lo hi) := H.cut h0 h1 h2 (by have := H.1; omega)
theorem RdS.cutM (H : RdS K X A c xs) (h0 : 0 ≤ lo) (h1 : lo ≤ hi) (h2 : hi ≤ xs.length) : RdS K X (cutA A (hi.toNat - lo.toNat) (lo.toNat * K.sz)) (hi.toNat - lo.toNat) (cutL xs lo hi) := H.cut h0 h1 h2 (Nat.le_refl _)
/-- A slice of one's own is cut: what is cut off is let go. -/
theorem OwnS.cut (H : OwnS K L A c xs) (HF : Fits z w (L ++ R)) (h0 : 0 ≤ lo) (h1 : lo ≤ hi) (h2 : hi ≤ xs.length) {q : Nat} (hq : hi.toNat - lo.toNat ≤ q) (hq2 : q ≤ c - lo.toNat) : ∃ L', Fits z w (L' ++ R) ∧ OwnS K L' (cutA A q (lo.toNat * K.sz)) q (cutL xs lo hi) := by
  rcases H with ⟨rfl, rfl, rfl, rfl⟩ | ⟨g, o, arr, T, Lr, rfl, rfl, hl, hm, hs, he⟩
  · have : q = 0 := by omega
    subst this
    exact ⟨[], HF, .inl ⟨by simp [cutA], rfl, by simp [cutL], rfl⟩⟩
  · obtain ⟨M1, M2, d1, d2, hL, hc, k1, k2⟩ := he.split hi.toNat
    obtain ⟨M3, M4, d3, d4, rfl, rfl, k3, k4⟩ := k1.split lo.toNat
    rw [List.take_take] at k3
    have e4 : (xs.take hi.toNat).drop lo.toNat = cutL xs lo hi := rfl
    rw [e4] at k4
    have l3 := k3.len
    have l4 := k4.len
    have n3 : (xs.take (min lo.toNat hi.toNat)).length = lo.toNat := by rw [List.length_take]; omega
    have n4 := len_cutL h0 h1 h2
    rw [n3] at l3
    rw [n4] at l4
    refine ⟨(g, .cells arr T (0, 0)) :: M4, ?_, ?_⟩
    · subst hL
      refine HF.sublist ?_
      refine List.Sublist.append_right (List.Sublist.cons_cons _ ?_) R
      exact (List.sublist_append_right M3 M4).trans (List.sublist_append_left (M3 ++ M4) M2)
    · by_cases hz : q = 0
      · subst hz
        have hl0 : (cutL xs lo hi).length = 0 := by rw [n4]; omega
        refine .inr ⟨g, o, arr, T, M4, by simp [cutA], rfl, by omega, Nat.zero_le _, by omega, ?_⟩
        have hnil := List.eq_nil_of_length_eq_zero hl0
        rw [hnil] at k4 ⊢
        obtain ⟨rfl, rfl⟩ := k4
        simp
        exact ⟨rfl, rfl⟩
      · have hle : lo.toNat * K.sz + q * K.sz ≤ c * K.sz := by rw [← Nat.add_mul]; exact Nat.mul_le_mul_right _ (by omega)
        refine .inr ⟨g, o + lo.toNat * K.sz, arr, T, M4, by rw [cutA, if_neg hz]; simp [add_mk], rfl, by omega, by omega, by omega, ?_⟩
        have hcut : (arr.toList.drop (o + lo.toNat * K.sz)).take ((cutL xs lo hi).length * K.sz) = d4 := by
          rw [n4, ← List.drop_drop]
          have hA : (arr.toList.drop o).take (xs.length * K.sz) = d3 ++ (d4 ++ d2) := by rw [hc, List.append_assoc]
          have hB : arr.toList.drop o = d3 ++ (d4 ++ d2) ++ (arr.toList.drop o).drop (xs.length * K.sz) := by rw [← hA, List.take_append_drop]
          rw [hB, List.append_assoc, ← l3, List.drop_left, List.append_assoc, ← l4, List.take_left]
        rw [hcut]; exact k4
end
end Go.Proofs.Ytbjnbjgiidcfjaa.Sp
