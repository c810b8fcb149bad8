/- The walk's own rules, part 4: operations that make or write memory; calls; ends. -/
import Derived.Test.YtbjnbjgiidcfjaaSp3
set_option linter.unusedVariables false
set_option linter.unusedSimpArgs false
namespace Go.Proofs.Ytbjnbjgiidcfjaa.Sp
open Go

/-- A value's cells. -/
def cellsL : Value → List Value
  | .agg cs => cs.toList
  | v => [v]
theorem cells_toList (v : Value) : v.cells.toList = cellsL v := by cases v <;> rfl
theorem cells_eq (v : Value) : v.cells = (cellsL v).toArray := by rw [← cells_toList]
/-- Part of a list written over. -/
def putSeg (l : List Value) (o : Nat) (cs : List Value) : List Value := l.take o ++ cs ++ l.drop (o + cs.length)
theorem putSeg_len {l : List Value} {o : Nat} {cs : List Value} (h : o + cs.length ≤ l.length) : (putSeg l o cs).length = l.length := by
  simp [putSeg, List.length_take, List.length_drop]; omega

section
variable {P : Program} {n : Nat} {dm : List (Nat × Nat)} {l : List Oper} {E : List (Nat × Value)} {z w : World} {Q : Exit → Act → World → Prop} {ty : TypeId} {pos : String} {af : Array Edge} {v u : Value} {d : Nat} {x y : Operand} {t T : TypeId} {L R : Hp}

/-! ### Memory that is made -/
theorem rBox (hx : lv E x = some v) : RunW P E w (.box t x) (.pointer (some ⟨w.heap.size, 0, none⟩)) (w.alloc (bk 0 t (cellsL v)).2) := fun n a _ _ _ _ _ hE => by
  simp [execOp, hE.ev hx, Instr.box, newVar, newRow, cells_eq]
theorem eBox (HF : Fits z w L) (hx : lv E x = some v) (hd : Nat.blt d n = true) (K : ∀ g w', Fits z w' (bk g t (cellsL v) :: L) → WL P n dm l ((d, .pointer (some ⟨g, 0, none⟩)) :: E) w' Q) :
    WL P n dm (⟨some d, .box t x, ty, pos, af, none⟩ :: l) E w Q := sW (rBox hx) hd (K _ _ (HF.alloc _))
theorem rAlloc {ds : TypeDesc} {zv : Value} {sz by_ : Nat} (TT : TI P t ds zv sz by_) : RunW P E w (.alloc t) (.pointer (some ⟨w.heap.size, 0, none⟩)) (w.alloc (bk 0 t (cellsL zv)).2) := fun n a _ _ _ _ _ hE => by
  simp [execOp, Instr.alloc, TT.zero w, newVar, newRow, cells_eq]
theorem eAlloc (HF : Fits z w L) {ds : TypeDesc} {zv : Value} {sz by_ : Nat} (TT : TI P t ds zv sz by_) (hd : Nat.blt d n = true) (K : ∀ g w', Fits z w' (bk g t (cellsL zv) :: L) → WL P n dm l ((d, .pointer (some ⟨g, 0, none⟩)) :: E) w' Q) :
    WL P n dm (⟨some d, .alloc t, ty, pos, af, none⟩ :: l) E w Q := sW (rAlloc TT) hd (K _ _ (HF.alloc _))

/-! ### A struct out of its parts -/
def lps (E : List (Nat × Value)) : List (Nat × Operand) → Option (List (Nat × Value))
  | [] => some []
  | p :: r => match lv E p.2 with | some v => (match lps E r with | some vs => some ((p.1, v) :: vs) | none => none) | none => none
theorem Env.parts {a : Act} (h : Env n E a) : ∀ (l : List (Nat × Operand)) (vs : List (Nat × Value)), lps E l = some vs → l.map (fun p => (p.1, a.eval p.2)) = vs
  | [], vs, hx => by simp [lps] at hx; simp [hx]
  | p :: r, vs, hx => by
    simp only [lps] at hx
    cases hv : lv E p.2 with
    | none => rw [hv] at hx; cases hx
    | some v =>
      rw [hv] at hx
      cases hr : lps E r with
      | none => rw [hr] at hx; cases hx
      | some us =>
        rw [hr] at hx
        simp only [Option.some.injEq] at hx
        subst hx
        rw [List.map_cons, h.ev hv, Env.parts h r us hr]
def fillL (pl : Nat → Option (Nat × Nat)) (l : List Value) : List (Nat × Value) → Option (List Value)
  | [] => some l
  | p :: r => match pl p.1 with
    | none => none
    | some q => match Nat.beq (cellsL p.2).length q.2 && Nat.ble (q.1 + q.2) l.length with
      | true => fillL pl (putSeg l q.1 (cellsL p.2)) r
      | false => none
theorem foldl_seg : ∀ (vs : List Value) (k off : Nat) (cs : Array Value), off + k + vs.length ≤ cs.size → (vs.zipIdx k).foldl (fun cs (p : Value × Nat) => cs.setIfInBounds (off + p.2) p.1) cs = (cs.toList.take (off + k) ++ vs ++ cs.toList.drop (off + k + vs.length)).toArray
  | [], k, off, cs, h => by simp
  | v :: vs, k, off, cs, h => by
    simp only [List.zipIdx_cons, List.foldl_cons]
    rw [foldl_seg vs (k + 1) off _ (by simp at h ⊢; omega)]
    have e := list_seg_step cs.toList (off + k) v vs (by simp at h ⊢; omega)
    simp only [Array.toList_setIfInBounds, List.length_cons]
    rw [show off + (k + 1) = off + k + 1 from rfl, e]
theorem fill_of {pl : Nat → Option (Nat × Nat)} : ∀ (ps : List (Nat × Value)) (l r : List Value), fillL pl l ps = some r → Instr.fill pl l.toArray ps = some r.toArray
  | [], l, r, h => by simp [fillL] at h; simp [Instr.fill, h]
  | p :: ps, l, r, h => by
    simp only [fillL] at h
    cases hp : pl p.1 with
    | none => rw [hp] at h; cases h
    | some q =>
      rw [hp] at h
      simp only at h
      split at h
      · rename_i hb
        simp only [Bool.and_eq_true] at hb
        have h1 : (cellsL p.2).length = q.2 := Nat.eq_of_beq_eq_true hb.1
        have h2 : q.1 + q.2 ≤ l.length := Nat.le_of_ble_eq_true hb.2
        have ih := fill_of ps _ r h
        obtain ⟨i, v⟩ := p
        obtain ⟨off, size⟩ := q
        simp only at hp h1 h2 ih
        have hs : v.cells.size = size := by rw [cells_eq]; simpa using h1
        have hf := foldl_seg (cellsL v) 0 off l.toArray (by simp; omega)
        simp only [Nat.add_zero] at hf
        have hz : v.cells.zipIdx.foldl (fun cs (c, j) => cs.setIfInBounds (off + j) c) l.toArray = (putSeg l off (cellsL v)).toArray := by
          rw [cells_eq, ← Array.foldl_toList, putSeg]
          simpa using hf
        simp only [Instr.fill, hp, hs, ne_eq, not_true_eq_false, decide_false, Bool.false_or, decide_eq_true_eq, List.size_toArray]
        rw [if_neg (by omega), hz]
        exact ih
      · cases h
/-- A struct's places: where each field begins, how many cells it has. -/
def PL (P : Program) (t : TypeId) (fs : Array Field) (pl : List (Nat × Nat)) : Prop :=
  P.underlying t = some (.struct fs) ∧ (fs.toList.mapM fun f => (P.info? f.type).map fun i => (f.offset, i.size)) = some pl
theorem places_run {fs : List Field} : ∀ {pl : List (Nat × Nat)}, (fs.mapM fun f => (P.info? f.type).map fun i => (f.offset, i.size)) = some pl →
    (fs.mapM (m := Sem) fun f => do pure (f.offset, ← sizeOf f.type)).run P w = .ok pl w := by
  induction fs with
  | nil => intro pl h; simp at h; subst h; simp
  | cons f fs ih =>
    intro pl h
    simp only [List.mapM_cons] at h
    cases hi : P.info? f.type with
    | none => simp [hi] at h
    | some i =>
      cases hm : (fs.mapM fun f => (P.info? f.type).map fun i => (f.offset, i.size)) with
      | none => simp [hi, hm] at h
      | some q =>
        simp [hi, hm] at h
        subst h
        have h2 := ih hm
        have h1 : (sizeOf f.type).run P w = .ok i.size w := by simp [sizeOf, typeInfo, hi]
        simp only [List.mapM_cons, Sem.run_bind, h1, Result.andThen_ok, Sem.run_pure, h2]
theorem bd {fs : Array Field} {pl : List (Nat × Nat)} {ds : TypeDesc} {zv : Value} {sz by_ : Nat} {ps : Array (Nat × Operand)} {pv : List (Nat × Value)} {r : List Value} (hp : PL P t fs pl) (TT : TI P t ds zv sz by_) (hv : lps E ps.toList = some pv) (hf : fillL (fun i => pl[i]?) (cellsL zv) pv = some r) :
    Run P E w (.build t ps) (.agg r.toArray) := fun n a _ _ _ _ _ hE => by
  obtain ⟨hu, hm⟩ := hp
  have e1 : (ps.map fun (i, x) => (i, a.eval x)).toList = pv := by
    rw [← hE.parts _ _ hv]
    simp
  have hr : (fs.mapM (m := Sem) fun f => do pure (f.offset, ← sizeOf f.type)).run P w = .ok pl.toArray w := by
    have h1 := places_run (P := P) (w := w) hm
    have h2 : fs.mapM (m := Sem) (fun f => do pure (f.offset, ← sizeOf f.type)) = List.toArray <$> (fs.toList.mapM (m := Sem) fun f => do pure (f.offset, ← sizeOf f.type)) := Array.mapM_eq_mapM_toList
    rw [h2]
    show (Sem.bind _ _).run P w = _
    have h3 : ((fs.toList.mapM (m := Sem) fun f => do pure (f.offset, ← sizeOf f.type)) >>= fun a => pure a.toArray).run P w = .ok pl.toArray w := by
      rw [Sem.run_bind, h1]; rfl
    exact h3
  have hfl := fill_of pv (cellsL zv) r hf
  have hz := TT.zero w
  have e2 : (fun (i : Nat) => (pl.toArray)[i]?) = fun (i : Nat) => pl[i]? := by funext i; simp
  have h4 : (Instr.build t (ps.map fun (i, x) => (i, a.eval x))).run P w = .ok (.agg r.toArray) w := by
    unfold Instr.build
    rw [Sem.run_bind, hz, Result.andThen_ok, Sem.run_bind, run_underlying hu, Result.andThen_ok]
    simp only [Sem.run_bind, hr, Result.andThen_ok, e1, cells_eq, e2, hfl]
    rfl
  simp [execOp, h4]

/-! ### Stores -/
theorem storeVar_run {ds : TypeDesc} {zv : Value} {sz by_ g o : Nat} {l0 : List Value} (HF : Fits z w (bk g T l0 :: R)) (TT : TI P t ds zv sz by_) (hl : (cellsL v).length = sz) (h1 : ∀ u ∈ cellsL v, u.oneCell' = true) (hb : o + sz ≤ l0.length) :
    (storeVar t ⟨g, o, none⟩ v).run P w = .ok () (w.setRow g (putSeg l0 o (cellsL v)).toArray) := by
  have hg := HF.here _ (List.mem_cons_self ..)
  have hs : (v.cells).size = sz := by rw [cells_eq]; simpa using hl
  have := run_storeCells_at P g o T (cellsL v) 0 l0.toArray w hg (by simp; omega) h1
  simp only [Nat.add_zero, List.toList_toArray] at this
  simp [storeVar, TT.size w, hs, cells_toList, this, putSeg]
theorem eSt {ds : TypeDesc} {zv : Value} {sz by_ g o : Nat} {l0 l1 : List Value} (HF : Fits z w (bk g T l0 :: R)) (hx : lv E x = some (.pointer (some ⟨g, o, none⟩))) (hy : lv E y = some v) (TT : TI P t ds zv sz by_) (hl : (cellsL v).length = sz) (h1 : ∀ u ∈ cellsL v, u.oneCell' = true) (hb : o + sz ≤ l0.length) (he : putSeg l0 o (cellsL v) = l1)
    (K : ∀ w', Fits z w' (bk g T l1 :: R) → WL P n dm l E w' Q) : WL P n dm (⟨none, .store t x y, ty, pos, af, none⟩ :: l) E w Q := by
  subst he
  refine sS (w' := w.setRow g (putSeg l0 o (cellsL v)).toArray) (fun n a _ _ _ _ _ hE => ?_) (K _ HF.setRow)
  simp [execOp, hE.ev hx, hE.ev hy, Instr.storeAt, Instr.sureAddr, storeVar_run HF TT hl h1 hb]
/-- .. of a value of one cell. -/
theorem eSt1 {ds : TypeDesc} {zv : Value} {by_ g o : Nat} {l0 l1 : List Value} (HF : Fits z w (bk g T l0 :: R)) (hx : lv E x = some (.pointer (some ⟨g, o, none⟩))) (hy : lv E y = some v) (TT : TI P t ds zv 1 by_) (h1 : v.oneCell' = true) (hb : Nat.blt o l0.length = true) (he : l0.set o v = l1)
    (K : ∀ w', Fits z w' (bk g T l1 :: R) → WL P n dm l E w' Q) : WL P n dm (⟨none, .store t x y, ty, pos, af, none⟩ :: l) E w Q := by
  have hc : cellsL v = [v] := by cases v <;> first | rfl | (simp [Value.oneCell'] at h1; done)
  have hb' : o < l0.length := by
    have := hb
    simp [Nat.blt] at this
    omega
  refine eSt HF hx hy TT (by rw [hc]; rfl) (by rw [hc]; intro u hu; simp at hu; subst hu; exact h1) (by omega) ?_ K
  rw [hc, ← he, putSeg, List.set_eq_take_append_cons_drop, if_pos hb']
  simp

/-! ### Calls -/
/-- Function f has a body: a call enters it. -/
def IsF (P : Program) (f : FuncId) : Prop := ∀ args w, (callFunc f args).run P w = .ok (.enter f args) w
theorem IsF.mk {f : FuncId} {fn : Func} {c : Code} (hf : P.funcs[f]? = some fn) (hb : fn.body = some c) (hn : (fn.name == "runtime.NumGoroutine") = false) : IsF P f := fun args w => by
  have hn' : ¬ fn.name = "runtime.NumGoroutine" := by simpa using hn
  simp [callFunc, hf, hb, hn']
theorem eCall {k : FuncId} {first cap : List Value} {f : Operand} {args : Array Operand} {ts : Array TypeId} {vs : List Value} {Rr : Ending → World → Prop} (hk : IsF P k) (hf : lv E f = some (.func (.func k) first.toArray cap.toArray)) (ha : lvs E args.toList = some vs) (hd : Nat.blt d n = true)
    (h : Calls P k (first ++ vs ++ cap).toArray w Rr) (K : ∀ e w', Rr e w' → ∃ v, e = .returned v ∧ WL P n dm l ((d, v) :: E) w' Q) : WL P n dm (⟨some d, .call { callee := .value f, args := args, argTypes := ts }, ty, pos, af, none⟩ :: l) E w Q := by
  intro ops a hdm hE
  have he := hE.evs _ _ ha
  have hargs : args.map a.eval = vs.toArray := by rw [← he, ← Array.toList_map]
  have hr : (execOp a.eval ⟨some d, .call { callee := .value f, args := args, argTypes := ts }, ty, pos, af, none⟩).run P w = .ok (.enter k (first ++ vs ++ cap).toArray) w := by
    simp [execOp, resolve, hargs, hE.ev hf, Deferred.ofValue, invoke]
    exact hk _ w
  simp only [wpList, Region.wanted, if_true]
  refine .inl ?_
  simp only [Oper.wp, hr, Oper.upon]
  refine h.mono fun e w' hR => ?_
  obtain ⟨v, rfl, hK⟩ := K e w' hR
  exact hK ops _ hdm (hE.put hd v)
theorem eCallG {k : FuncId} {first cap : List Value} {f : Operand} {args : Array Operand} {ts : Array TypeId} {vs : List Value} {Rr : Ending → World → Prop} {j kk : Nat} {b : Bool} (hj : (dm.find? (fun p => Nat.beq p.1 j)).map (·.2) = some kk) (hb : lk E kk = some (.bool b)) (hk : IsF P k) (hf : lv E f = some (.func (.func k) first.toArray cap.toArray)) (ha : lvs E args.toList = some vs) (hd : Nat.blt d n = true)
    (h : Calls P k (first ++ vs ++ cap).toArray w Rr) (K : ∀ e w', Rr e w' → ∃ v, e = .returned v ∧ WL P n dm l ((d, v) :: E) w' Q) : WL P n dm (⟨some d, .call { callee := .value f, args := args, argTypes := ts }, ty, pos, af, some (j, b)⟩ :: l) E w Q := by
  intro ops a hdm hE
  have he := hE.evs _ _ ha
  have hargs : args.map a.eval = vs.toArray := by rw [← he, ← Array.toList_map]
  have hr : (execOp a.eval ⟨some d, .call { callee := .value f, args := args, argTypes := ts }, ty, pos, af, some (j, b)⟩).run P w = .ok (.enter k (first ++ vs ++ cap).toArray) w := by
    simp [execOp, resolve, hargs, hE.ev hf, Deferred.ofValue, invoke]
    exact hk _ w
  have hy := yielded_of hE (dm_get dm j kk hdm hj) hb
  simp only [wpList, Region.wanted, hy, beq_self_eq_true, if_true]
  refine .inl ?_
  simp only [Oper.wp, hr, Oper.upon]
  refine h.mono fun e w' hR => ?_
  obtain ⟨v, rfl, hK⟩ := K e w' hR
  exact hK ops _ hdm (hE.put hd v)
/-- A function is entered. -/
theorem enter {f : FuncId} {fn : Func} {c : Code} {args : List Value} {Rr : Ending → World → Prop} (hf : P.funcs[f]? = some fn) (hb : fn.body = some c) {m : Nat} (hm : fn.ntmps = m) (hl : args.length ≤ m)
    (E : List (Nat × Value)) (hE : ∀ i v, lk E i = some v → args[i]? = some v) (h : WC P m c E w (bodyPost P fn Rr)) : Calls P f args.toArray w Rr := by
  refine calls_of_wp hf hb (h _ ⟨?_, rfl, fun i v hi => ?_⟩)
  · simp [hm]; omega
  · have := hE i v hi
    have hlt : i < args.length := (List.getElem?_eq_some_iff.1 this).1
    simp [Array.getElem?_append, hlt]
    exact (List.getElem?_eq_some_iff.1 this).2
theorem lk_args (l : List Value) : ∀ (k : Nat) (E : List (Nat × Value)), E = (l.zipIdx k).map (fun p => (p.2, p.1)) → ∀ i v, lk E i = some v → k ≤ i ∧ l[i - k]? = some v := by
  induction l with
  | nil => intro k E hE i v h; subst hE; simp [lk] at h
  | cons a l ih =>
    intro k E hE i v h
    subst hE
    simp only [List.zipIdx_cons, List.map_cons] at h
    by_cases hi : i = k
    · subst hi
      obtain rfl := lk_cons_eq h
      simp
    · rw [lk_cons_ne hi] at h
      obtain ⟨h1, h2⟩ := ih (k + 1) _ rfl i v h
      refine ⟨by omega, ?_⟩
      rw [show i - k = (i - (k + 1)) + 1 by omega, List.getElem?_cons_succ]
      exact h2
def argE (l : List Value) : List (Nat × Value) := (l.zipIdx 0).map (fun p => (p.2, p.1))
theorem enter0 {f : FuncId} {fn : Func} {c : Code} {args : List Value} {Rr : Ending → World → Prop} (hf : P.funcs[f]? = some fn) (hb : fn.body = some c) {m : Nat} (hm : fn.ntmps = m) (hl : Nat.ble args.length m = true)
    {E : List (Nat × Value)} (hE : argE args = E) (h : WC P m c E w (bodyPost P fn Rr)) : Calls P f args.toArray w Rr :=
  enter hf hb hm (Nat.le_of_ble_eq_true hl) E (fun i v hi => by have := lk_args args 0 E hE.symm i v hi; simpa using this.2) h
/-! ### Ends -/
theorem ret1 {fn : Func} {k : Tmp} {Rr : Ending → World → Prop} (hr : fn.results = #[.tmp k]) (hv : lk E k = some v) (h : Rr (.returned v) w) : WK n E w (bodyPost P fn Rr .ret) := fun a hE => by
  refine bodyPost_ret (v := v) ?_ hE.defers h
  rw [results_tmp hr]
  simp [hE.get k v hv]
theorem ret0 {fn : Func} {Rr : Ending → World → Prop} (hr : fn.results = #[]) (h : Rr (.returned (.tuple #[])) w) : WK n E w (bodyPost P fn Rr .ret) := fun a hE => bodyPost_ret (results_none hr _ _ _) hE.defers h
theorem end0 {fn : Func} {Rr : Ending → World → Prop} (hr : fn.results = #[]) (h : Rr (.returned (.tuple #[])) w) : WK n E w (bodyPost P fn Rr .normal) := fun a hE => bodyPost_end (results_none hr _ _ _) hE.defers h
theorem ret2 {fn : Func} {k m : Tmp} {Rr : Ending → World → Prop} (hr : fn.results = #[.tmp k, .tmp m]) (hv : lk E k = some v) (hu : lk E m = some u) (h : Rr (.returned (.tuple #[v, u])) w) : WK n E w (bodyPost P fn Rr .ret) := fun a hE => by
  refine bodyPost_ret (v := .tuple #[v, u]) ?_ hE.defers h
  rw [results_tmp2 hr]
  simp [hE.get k v hv, hE.get m u hu]
end
end Go.Proofs.Ytbjnbjgiidcfjaa.Sp
namespace Go.Proofs.Ytbjnbjgiidcfjaa.Sp
open Go
section
variable {P : Program} {n : Nat} {dm : List (Nat × Nat)} {l : List Oper} {E : List (Nat × Value)} {w : World} {Q : Exit → Act → World → Prop} {K : Act → World → Prop} {id id' : Nat} {u v : Value} {i : Nat}
/-! ### Through the frames of the code -/
theorem kN (h : WK n E w K) : WK n E w (Exit.then K Q .normal) := h
theorem kR (h : WK n E w (Q .ret)) : WK n E w (Exit.then K Q .ret) := h
theorem kX (h : WK n E w (Q (.exit id))) : WK n E w (Exit.then K Q (.exit id)) := h
theorem jN (h : WK n E w (Q .normal)) : WK n E w (Exit.inBlock id Q .normal) := h
theorem jR (h : WK n E w (Q .ret)) : WK n E w (Exit.inBlock id Q .ret) := h
theorem jX (h : WK n E w (Q .normal)) : WK n E w (Exit.inBlock id Q (.exit id)) := fun a hE => by
  show Exit.inBlock id Q (.exit id) a w
  simp only [Exit.inBlock, if_true]
  exact h a hE
theorem jY (hne : Nat.beq id' id = false) (h : WK n E w (Q (.exit id'))) : WK n E w (Exit.inBlock id Q (.exit id')) := fun a hE => by
  have : id' ≠ id := fun e => by subst e; rw [Nat.beq_refl] at hne; cases hne
  show Exit.inBlock id Q (.exit id') a w
  simp only [Exit.inBlock, if_neg this]
  exact h a hE
/-- A slot's value by another word. -/
theorem lSet (h : lk E i = some u) (e : u = v) (k : WL P n dm l ((i, v) :: E) w Q) : WL P n dm l E w Q := fun ops a hd hE => k ops a hd ⟨hE.size, hE.defers, fun j x hj => by
  by_cases hi : j = i
  · subst hi; obtain rfl := lk_cons_eq hj; exact hE.get j x (e ▸ h)
  · rw [lk_cons_ne hi] at hj; exact hE.get j x hj⟩
theorem cSet {c : Code} (h : lk E i = some u) (e : u = v) (k : WC P n c ((i, v) :: E) w Q) : WC P n c E w Q := fun a hE => k a ⟨hE.size, hE.defers, fun j x hj => by
  by_cases hi : j = i
  · subst hi; obtain rfl := lk_cons_eq hj; exact hE.get j x (e ▸ h)
  · rw [lk_cons_ne hi] at hj; exact hE.get j x hj⟩
theorem kSet (h : lk E i = some u) (e : u = v) (k : WK n ((i, v) :: E) w K) : WK n E w K := fun a hE => k a ⟨hE.size, hE.defers, fun j x hj => by
  by_cases hi : j = i
  · subst hi; obtain rfl := lk_cons_eq hj; exact hE.get j x (e ▸ h)
  · rw [lk_cons_ne hi] at hj; exact hE.get j x hj⟩
theorem dT {p : Prop} [Decidable p] (h : p) : Value.bool (decide p) = .bool true := by rw [decide_eq_true h]
theorem dF {p : Prop} [Decidable p] (h : ¬ p) : Value.bool (decide p) = .bool false := by rw [decide_eq_false h]
theorem nT {p : Prop} [Decidable p] (h : ¬ p) : Value.bool (!decide p) = .bool true := by rw [decide_eq_false h]; rfl
theorem nF {p : Prop} [Decidable p] (h : p) : Value.bool (!decide p) = .bool false := by rw [decide_eq_true h]; rfl
theorem vT {b : Bool} (h : b = true) : Value.bool b = .bool true := by rw [h]
theorem vF {b : Bool} (h : ¬ b = true) : Value.bool b = .bool false := by cases b <;> first | rfl | exact absurd rfl h
theorem wT {b : Bool} (h : ¬ b = true) : Value.bool (!b) = .bool true := by cases b <;> first | rfl | exact absurd rfl h
theorem wF {b : Bool} (h : b = true) : Value.bool (!b) = .bool false := by rw [h]; rfl
/-- Where ways meet: the state that is handed on. -/
theorem ofEnv {S : Act → World → Prop} (h : ∀ a, Env n E a → S a w) : WK n E w S := h
/-- A round of a loop, or what stands behind a meeting, from a state of which this is known. -/
theorem go_ {c : Code} {a : Act} (hE : Env n E a) (h : WC P n c E w Q) : c.wp P Q a w := h a hE
theorem go_k {a : Act} (hE : Env n E a) (h : WK n E w K) : K a w := h a hE
end
end Go.Proofs.Ytbjnbjgiidcfjaa.Sp
namespace Go.Proofs.Ytbjnbjgiidcfjaa.Sp
open Go
section
variable {P : Program} {n : Nat} {dm : List (Nat × Nat)} {l : List Oper} {E : List (Nat × Value)} {w : World} {Q : Exit → Act → World → Prop} {op : Op} {ty : TypeId} {pos : String} {af : Array Edge} {d j k : Nat} {b : Bool} {dst : Option Tmp}
/-- A guard that was not asked itself. -/
theorem sU (hj : (dm.find? (fun p => Nat.beq p.1 j)).map (·.2) = some k) (hb : lk E k = some undef) (hdst : dst = some d) (hd : Nat.blt d n = true) (K : WL P n dm l ((d, undef) :: E) w Q) :
    WL P n dm (⟨dst, op, ty, pos, af, some (j, b)⟩ :: l) E w Q := by
  subst hdst
  intro ops a hdm hE
  have h1 := hE.get k _ hb
  have hy : yielded ops a.tmps j = none := by simp [yielded, dm_get dm j k hdm hj, h1, undef]
  have hw : ((none : Option Bool) == some b) = false := by cases b <;> rfl
  simp only [wpList, Region.wanted, hy, hw, if_false, Bool.false_eq_true]
  exact K ops _ hdm (hE.put hd undef)
theorem sU0 (hj : (dm.find? (fun p => Nat.beq p.1 j)).map (·.2) = some k) (hb : lk E k = some undef) (K : WL P n dm l E w Q) :
    WL P n dm (⟨none, op, ty, pos, af, some (j, b)⟩ :: l) E w Q := by
  intro ops a hdm hE
  have h1 := hE.get k _ hb
  have hy : yielded ops a.tmps j = none := by simp [yielded, dm_get dm j k hdm hj, h1, undef]
  have hw : ((none : Option Bool) == some b) = false := by cases b <;> rfl
  simp only [wpList, Region.wanted, hy, hw, if_false, Bool.false_eq_true]
  exact K ops _ hdm hE
end
end Go.Proofs.Ytbjnbjgiidcfjaa.Sp
