/- The walk's own rules, part 8: slices that are made, grown, cut, written. -/
import Derived.Test.YtbjnbjgiidcfjaaSp7
set_option linter.unusedVariables false
set_option linter.unusedSimpArgs false
namespace Go.Proofs.Ytbjnbjgiidcfjaa.Sp
open Go

theorem add_mk (g o m : Nat) : (⟨g, o, none⟩ : Addr).add m = ⟨g, o + m, none⟩ := by unfold Addr.add; split <;> simp_all
section
variable {P : Program} {n : Nat} {dm : List (Nat × Nat)} {l : List Oper} {E : List (Nat × Value)} {z w : World} {Q : Exit → Act → World → Prop} {ty : TypeId} {pos : String} {af : Array Edge} {v u : Value} {d : Nat} {x y : Operand} {t e : TypeId} {L Lo Ls Le R X : Hp} {α : Type} {K : Kd α} {A A2 : Option Addr} {c c2 : Nat} {xs ys : List α}

/-! ### A slice that is written out -/
theorem cells_lit (zc : List Value) (m k : Nat) (hz : zc.length = k) : ((Array.range (m * k)).map (fun i => (zc.toArray)[i % (zc.toArray).size]!)).toList = ((List.range (m * k)).map (fun i => zc.getD (i % k) undef)) := by
  rw [Array.toList_map]
  simp only [Array.toList_range]
  apply List.map_congr_left
  intro i hi
  rw [List.mem_range] at hi
  have hk : 0 < k := by
    rcases Nat.eq_zero_or_pos k with h | h
    · subst h; simp at hi
    · exact h
  have hlt : i % k < zc.length := by rw [hz]; exact Nat.mod_lt _ hk
  have h1 : i % k < zc.toArray.size := by simpa using hlt
  simp only [List.size_toArray, hz]
  rw [List.getD_eq_getElem?_getD, List.getElem?_eq_getElem hlt, getElem!_pos zc.toArray (i % k) h1]
  simp
theorem rLit {ds : TypeDesc} {zv : Value} {sz by_ m : Nat} {ps : Array (Nat × Operand)} {pv : List (Nat × Value)} {r : List Value} (hu : P.underlying t = some (.slice e)) (TT : TI P e ds zv sz by_) (hb : Nat.ble (m * sz) 16777216 = true) (hz : (cellsL zv).length = sz) (hv : lps E ps.toList = some pv)
    (hf : fillL (fun i => some (i * sz, sz)) ((List.range (m * sz)).map (fun i => (cellsL zv).getD (i % sz) undef)) pv = some r) :
    RunW P E w (.buildSlice t m ps) (.slice (some ⟨w.heap.size, 0, none⟩) m m) (w.alloc (bk 0 e r).2) := fun n a _ _ _ _ _ hE => by
  have e1 : (ps.map fun (i, x) => (i, a.eval x)).toList = pv := by
    rw [← hE.parts _ _ hv, Array.toList_map]
  have hfl := fill_of pv _ r hf
  have hle : ¬ (m * sz > 2 ^ 24) := by have := Nat.le_of_ble_eq_true hb; omega
  have hc := cells_lit (cellsL zv) m sz hz
  have hc' : ((Array.range (m * sz)).map (fun i => ((cellsL zv).toArray)[i % ((cellsL zv).toArray).size]!)) = ((List.range (m * sz)).map (fun i => (cellsL zv).getD (i % sz) undef)).toArray := by
    rw [← hc]
  have hrun : (Instr.buildSlice t m (ps.map fun (i, x) => (i, a.eval x))).run P w = .ok (.slice (some ⟨w.heap.size, 0, none⟩) m m) (w.alloc (bk 0 e r).2) := by
    unfold Instr.buildSlice
    rw [Sem.run_bind, run_underlying hu, Result.andThen_ok]
    simp only [Sem.run_bind, TT.size w, Result.andThen_ok]
    rw [if_neg hle]
    by_cases h0 : m * sz = 0
    · rw [if_pos h0]
      simp only [h0, List.range_zero, List.map_nil] at hfl
      have h2 : (Instr.fill (fun i => some (i * sz, sz)) #[] pv) = some r.toArray := hfl
      have h3 : ((Array.range 0).map (fun x : Nat => (default : Value))) = #[] := by apply Array.ext'; simp
      simp only [Sem.run_pure, Result.andThen_ok, e1, h0]
      simp [newRow, h3, h2]
    · rw [if_neg h0]
      simp only [Sem.run_bind, TT.zero w, Result.andThen_ok, Sem.run_pure, cells_eq, hc', e1, hfl]
      simp [newRow]
  simp [execOp, hrun]
/-- Its elements' memory lies in front; it becomes the new slice's. -/
theorem eLit {ds : TypeDesc} {zv : Value} {sz by_ m : Nat} {ps : Array (Nat × Operand)} {pv : List (Nat × Value)} {r : List Value} (K : Kd α) (xs : List α) (HF : Fits z w (Le ++ R)) (hu : P.underlying t = some (.slice e)) (TT : TI P e ds zv sz by_) (hb : Nat.ble (m * sz) 16777216 = true) (hz : (cellsL zv).length = sz) (hv : lps E ps.toList = some pv)
    (hf : fillL (fun i => some (i * sz, sz)) ((List.range (m * sz)).map (fun i => (cellsL zv).getD (i % sz) undef)) pv = some r) (hd : Nat.blt d n = true) (ho : OwnE K Le r xs) (hm : xs.length = m) (hx : Nat.ble m 16777216 = true)
    (k : ∀ L A c w', Fits z w' (L ++ R) → OwnS K L A c xs → WL P n dm l ((d, .slice A xs.length c) :: E) w' Q) : WL P n dm (⟨some d, .buildSlice t m ps, ty, pos, af, none⟩ :: l) E w Q := by
  subst hm
  have hx' : xs.length ≤ maxLen := by
    have := Nat.le_of_ble_eq_true hx
    unfold maxLen; omega
  refine sW (rLit hu TT hb hz hv hf) hd ?_
  exact k (bk w.heap.size e r :: Le) _ _ _ (HF.alloc _) (OwnS.lit ho hx')

/-! ### append -/
/-- What the source of an append or a copy tells: its cells, in the world. -/
def Src (w : World) (A : Option Addr) (m sz : Nat) (cs : List Value) : Prop := cs.length = m * sz ∧ (cs = [] ∨ ∃ ad, A = some ad ∧ ∀ j v, cs[j]? = some v → w.cell? (ad.add j) = some v)
theorem first_run {w' : World} {sz m c2 : Nat} {cs : List Value} (h : Src w' A2 m sz cs) : (Builtin.firstCells sz m (.slice A2 m c2)).run P w' = .ok cs.toArray w' := by
  obtain ⟨hl, h⟩ := h
  cases A2 with
  | none =>
    rcases h with rfl | ⟨ad, h, _⟩
    · simp [Builtin.firstCells]
    · cases h
  | some ad =>
    simp only [Builtin.firstCells]
    rw [← hl]
    refine run_loadCells_list (P := P) w' ad cs ?_
    rcases h with rfl | ⟨ad', h, hc⟩
    · intro j v hv; simp at hv
    · cases h; exact hc
/-- The cells of a slice of one's own, as a source. -/
theorem OwnS.src (h : OwnS K L A c xs) (HF : Fits z w (L ++ R)) : ∃ cs, OwnE K L.tail cs xs ∧ Src w A xs.length K.sz cs := by
  rcases h with ⟨rfl, rfl, rfl, rfl⟩ | ⟨g, o, arr, T, Lr, rfl, rfl, hl, hm, hs, he⟩
  · exact ⟨[], ⟨rfl, rfl⟩, by simp, .inl rfl⟩
  · refine ⟨_, he, he.len, .inr ⟨_, rfl, fun j v hv => ?_⟩⟩
    rw [add_mk]
    rw [List.getElem?_take] at hv
    split at hv
    · rw [List.getElem?_drop] at hv
      exact HF.cell ⟨rfl, arr, T, (0, 0), by simp, by simpa using hv⟩
    · cases hv
/-- A flat slice that is read, as a source. -/
theorem RdS.src {enc : α → List Value} {q : Nat} {hn : ∀ x, (enc x).length = q} {h1 : ∀ x, ∀ v ∈ enc x, v.oneCell' = true} (h : RdS (kFlat enc q hn h1) X A c xs) (HF : Fits z w L) (hs : X ⊆ L) : OwnE (kFlat enc q hn h1) [] (xs.flatMap enc) xs ∧ Src w A xs.length q (xs.flatMap enc) := by
  have hE : ∀ ys : List α, OwnE (kFlat enc q hn h1) [] (ys.flatMap enc) ys := by
    intro ys
    induction ys with
    | nil => exact ⟨rfl, rfl⟩
    | cons y ys ih => exact ⟨[], [], enc y, _, rfl, by simp, ⟨rfl, rfl⟩, ih⟩
  refine ⟨hE xs, (hE xs).len, ?_⟩
  rcases h.2 with rfl | ⟨g, o, rfl, hh⟩
  · exact .inl rfl
  · refine .inr ⟨_, rfl, fun j v hv => ?_⟩
    rw [add_mk]
    have hlen : (xs.flatMap enc).length = xs.length * q := (hE xs).len
    have hj : j < xs.length * q := by rw [← hlen]; exact (List.getElem?_eq_some_iff.1 hv).1
    have hq : 0 < q := by
      rcases Nat.eq_zero_or_pos q with h0 | h0
      · subst h0; simp at hj
      · exact h0
    have hi : j / q < xs.length := Nat.div_lt_of_lt_mul (by rw [Nat.mul_comm]; exact hj)
    obtain ⟨cs, k1, k2⟩ := hh (j / q) xs[j / q] (by simp [hi])
    have k1' : cs = enc xs[j / q] := k1
    subst k1'
    obtain ⟨ci, Li, k3, _, k4⟩ := (hE xs).cells (i := j / q) (x := xs[j / q]) (by simp [hi])
    have k3' : ci = enc xs[j / q] := k3.2
    subst k3'
    have hm : j % q < (enc xs[j / q]).length := by rw [hn]; exact Nat.mod_lt _ hq
    have k5 := k4 (j % q) _ (List.getElem?_eq_getElem hm)
    have ej : j / q * q + j % q = j := by rw [Nat.mul_comm]; exact Nat.div_add_mod j q
    have e1 : (kFlat enc q hn h1).sz = q := rfl
    rw [e1, ej, hv] at k5
    have k6 := k2 (j % q) _ (List.getElem?_eq_getElem hm)
    rw [e1] at k6
    have := HF.cells hs k6
    rw [Nat.add_assoc, ej] at this
    rw [this, ← Option.some.inj k5]
theorem take_put {arr : List Value} {o a b : Nat} {cs : List Value} (hb : o + a + cs.length ≤ arr.length) (he : b = a + cs.length) : ((arr.take (o + a) ++ cs ++ arr.drop (o + a + cs.length)).drop o).take b = (arr.drop o).take a ++ cs := by
  subst he
  apply List.ext_getElem?
  intro j
  simp only [List.getElem?_take, List.getElem?_drop, List.getElem?_append, List.length_take, List.length_append, List.length_drop]
  by_cases h1 : j < a
  · have e1 : j < a + cs.length := by omega
    have e2 : o + j < min (o + a) arr.length + cs.length := by omega
    have e3 : o + j < min (o + a) arr.length := by omega
    have e4 : j < min a (arr.length - o) := by omega
    simp [h1, e1, e2, e3, e4]
  · by_cases h2 : j < a + cs.length
    · have e2 : o + j < min (o + a) arr.length + cs.length := by omega
      have e3 : ¬ o + j < min (o + a) arr.length := by omega
      have e4 : ¬ j < min a (arr.length - o) := by omega
      simp [h2, e2, e3, e4]
      congr 1
      omega
    · have e4 : ¬ j < min a (arr.length - o) := by omega
      have e5 : cs.length ≤ j - min a (arr.length - o) := by omega
      simp [h2, e4, e5]
/-- append: the new value, and memory for it; what the appended elements own goes over. -/
theorem app_run {ds : TypeDesc} {zv : Value} {by_ : Nat} {sT xT : TypeId} {m c2 : Nat} {cs : List Value} (HF : Fits z w (Lo ++ (Le ++ R))) (hu : P.underlying sT = some (.slice e)) (hx : P.underlying xT = some (.slice e)) (TT : TI P e ds zv K.sz by_) (hz : (cellsL zv).length = K.sz) (ho : OwnS K Lo A c xs) (hs : Src w A2 m K.sz cs) (he : OwnE K Le cs ys) (hm : ys.length = m)
    (hb : (xs.length + m) * by_ ≤ 140737488355328) (hby : 0 < by_) :
    ∃ L A' c' w', (Builtin.append_ #[sT, xT] ty #[.slice A xs.length c, .slice A2 m c2]).run P w = .ok (.slice A' (xs ++ ys).length c') w' ∧ Fits z w' (L ++ R) ∧ OwnS K L A' c' (xs ++ ys) := by
  have hlen : xs.length + m ≤ 140737488355328 := Nat.le_trans (Nat.le_mul_of_pos_right _ hby) hb
  have hsz := TT.size w
  obtain ⟨i, hi1, hi2, hi3, hi4⟩ := TT.info
  have hti : ∀ w : World, (typeInfo e).run P w = .ok i w := fun w => by simp [typeInfo, hi1]
  have hcl := he.len
  have hone := he.oneCell
  have hnew : ∀ (w' : World), Src w' A2 m K.sz cs → (Builtin.firstCells K.sz m (.slice A2 m c2)).run P w' = .ok cs.toArray w' := fun w' h => first_run (P := P) h
  have hyl : (xs ++ ys).length = xs.length + m := by simp [hm]
  have hzeros : (match (#[sT, xT] : Array TypeId)[1]? with | some xType => (do pure ((← underlying xType) matches .int _) : Sem Bool) | none => pure false).run P w = .ok false w := by
    simp [run_underlying hx]
  have grow : ∀ old : List Value, old.length = xs.length * K.sz → OwnE K Lo.tail old xs → (∀ p ∈ Lo.tail, p ∈ Lo) → c < xs.length + m →
      ((Builtin.firstCells K.sz xs.length (.slice A xs.length c)).run P (w.drew) = .ok old.toArray w.drew) →
      ∃ L A' c' w', (Builtin.append_ #[sT, xT] ty #[.slice A xs.length c, .slice A2 m c2]).run P w = .ok (.slice A' (xs ++ ys).length c') w' ∧ Fits z w' (L ++ R) ∧ OwnS K L A' c' (xs ++ ys) := by
    intro old hol hoe hsub hcap hold
    have h63 : ¬ ((xs.length + m : Nat) : Int) > IntKind.i64.max := by
      have : IntKind.i64.max = 9223372036854775807 := by decide
      omega
    have hnext : ¬ (Builtin.nextslicecap (xs.length + m) c * by_ > 2 ^ 48) := by
      have := growslice_fits (need := xs.length + m) (old := c) (bytes := by_) hcap hb
      omega
    have hdr : Src w.drew A2 m K.sz cs := hs
    refine ⟨bk w.heap.size e (old ++ cs ++ (Builtin.zeroCells zv.cells (grownCap w (xs.length + m) c e - (xs.length + m))).toList) :: (Lo.tail ++ Le), some ⟨w.heap.size, 0, none⟩, grownCap w (xs.length + m) c e, w.drew.alloc (bk 0 e (old ++ cs ++ (Builtin.zeroCells zv.cells (grownCap w (xs.length + m) c e - (xs.length + m))).toList)).2, ?_, ?_, ?_⟩
    · have hzr : ∀ w : World, (zeroValue e).run P w = .ok zv w := TT.zero
      have hq : (Question.appendCap (xs.length + m) c e).forced = false := rfl
      have hcapn : ¬ xs.length + m ≤ c := by omega
      have h63' : ¬ (9223372036854775807 : Int) < (xs.length : Int) + (m : Int) := by omega
      have hby0 : ¬ by_ = 0 := by omega
      have hnext' : ¬ 281474976710656 < Builtin.nextslicecap (xs.length + m) c * by_ := by omega
      have hn1 := hnew w.drew hdr
      simp [Builtin.append_, run_underlying hu, run_underlying hx, sizeOf, hti, hi3, hi4, Builtin.lenOf, hcapn, h63', hby0, hnext', hq, hold, hn1, hzr, newRow, grownCap, hm, hyl]
      refine congrArg w.drew.alloc (congrArg (fun q => Obj.cells q e) ?_)
      apply Array.ext'
      simp
    · have h1 : Fits z w.drew (Lo.tail ++ (Le ++ R)) := by
        refine ⟨⟨HF.os.1, Nat.le_succ_of_le HF.os.2⟩, HF.tape, HF.output, ?_, fun p hp => ?_⟩
        · have := HF.nodup
          cases Lo with
          | nil => exact this
          | cons b Lo => simp only [List.cons_append, List.map_cons, List.nodup_cons] at this; exact this.2
        · refine HF.here p ?_
          rcases List.mem_append.1 hp with hp | hp
          · exact List.mem_append_left _ (hsub p hp)
          · exact List.mem_append_right _ hp
      have h2 := h1.alloc (bk 0 e (old ++ cs ++ (Builtin.zeroCells zv.cells (grownCap w (xs.length + m) c e - (xs.length + m))).toList)).2
      simpa [List.append_assoc] using h2
    · have hge := grownCap_ge w (xs.length + m) c e
      have hcm : grownCap w (xs.length + m) c e ≤ maxLen := grownCap_le_maxLen w _ _ _ (by simp only [maxLen]; omega)
      have hzs : zv.cells.size = K.sz := by rw [cells_eq]; simpa using hz
      refine .inr ⟨w.heap.size, 0, _, e, Lo.tail ++ Le, rfl, rfl, by rw [hyl]; exact hge, hcm, ?_, ?_⟩
      · simp only [List.size_toArray, List.length_append, hol, hcl, hm, Array.length_toList, size_zeroCells, hzs, ← Nat.add_mul]
        have : xs.length + m + (grownCap w (xs.length + m) c e - (xs.length + m)) = grownCap w (xs.length + m) c e := by omega
        rw [this]; omega
      · have hj : (((old ++ cs ++ (Builtin.zeroCells zv.cells (grownCap w (xs.length + m) c e - (xs.length + m))).toList).toArray.toList.drop 0).take ((xs ++ ys).length * K.sz)) = old ++ cs := by
          simp only [List.drop_zero, List.toList_toArray]
          have : (xs ++ ys).length * K.sz = (old ++ cs).length := by simp only [List.length_append, hol, hcl, Nat.add_mul]
          rw [this, List.take_left]
        rw [hj]
        exact hoe.app he
  rcases ho with ⟨rfl, rfl, rfl, rfl⟩ | ⟨g, o, arr, T, Lr, rfl, rfl, hl, hmx, has, hoe⟩
  · by_cases h0 : m = 0
    · subst h0
      obtain rfl : ys = [] := List.eq_nil_of_length_eq_zero hm
      obtain ⟨rfl, rfl⟩ := he
      refine ⟨[], none, 0, w, ?_, HF, OwnS.nil⟩
      have hn1 := hnew w hs
      simp [Builtin.append_, run_underlying hu, run_underlying hx, sizeOf, hti, hi3, Builtin.lenOf, hn1]
    · exact grow [] (by simp) ⟨rfl, rfl⟩ (by simp) (by simp; omega) (by simp [Builtin.firstCells])
  · by_cases hroom : xs.length + m ≤ c
    · have hg := HF.here _ (List.mem_cons_self ..)
      have hlt : xs.length * K.sz + cs.length ≤ c * K.sz := by rw [hcl, hm, ← Nat.add_mul]; exact Nat.mul_le_mul_right _ hroom
      have hst := run_storeCells_at P g (o + xs.length * K.sz) T cs 0 arr w hg (by omega) hone
      simp only [Nat.add_zero] at hst
      refine ⟨(g, .cells (arr.toList.take (o + xs.length * K.sz) ++ cs ++ arr.toList.drop (o + xs.length * K.sz + cs.length)).toArray T (0, 0)) :: (Lr ++ Le), some ⟨g, o, none⟩, c, w.setRow g (arr.toList.take (o + xs.length * K.sz) ++ cs ++ arr.toList.drop (o + xs.length * K.sz + cs.length)).toArray, ?_, ?_, ?_⟩
      · have hn1 := hnew w hs
        simp [Builtin.append_, run_underlying hu, run_underlying hx, sizeOf, hti, hi3, Builtin.lenOf, hroom, hn1, add_mk, hst, hm, hyl]
      · have := HF.setRow (c' := (arr.toList.take (o + xs.length * K.sz) ++ cs ++ arr.toList.drop (o + xs.length * K.sz + cs.length)).toArray)
        simpa [List.append_assoc] using this
      · refine .inr ⟨g, o, _, T, Lr ++ Le, rfl, rfl, by rw [hyl]; exact hroom, hmx, ?_, ?_⟩
        · simp only [List.size_toArray, List.length_append, List.length_take, List.length_drop, Array.length_toList]; omega
        · have hput := take_put (arr := arr.toList) (o := o) (a := xs.length * K.sz) (b := (xs ++ ys).length * K.sz) (cs := cs) (by have h5 : arr.toList.length = arr.size := by simp
                                                                                                                                    omega) (by rw [hyl, hcl, hm, Nat.add_mul])
          simp only [List.toList_toArray]
          rw [hput]
          exact hoe.app he
    · have hsrc : Src w.drew (some ⟨g, o, none⟩) xs.length K.sz ((arr.toList.drop o).take (xs.length * K.sz)) := by
        refine ⟨hoe.len, .inr ⟨_, rfl, fun j v hv => ?_⟩⟩
        rw [add_mk]
        rw [List.getElem?_take] at hv
        split at hv
        · rw [List.getElem?_drop] at hv
          exact HF.drew.cell ⟨rfl, arr, T, (0, 0), by simp, by simpa using hv⟩
        · cases hv
      exact grow _ hoe.len hoe (fun p hp => List.mem_cons_of_mem _ hp) (by omega) (first_run (P := P) hsrc)
end
end Go.Proofs.Ytbjnbjgiidcfjaa.Sp
