/- Rows: from a contract and a plain law to a law's row. -/
import Derived.Test.YtbjnbjgiidcfjaaSp5
import Derived.ProofKit
set_option linter.unusedVariables false
set_option linter.unusedSimpArgs false
namespace Go.Proofs.Ytbjnbjgiidcfjaa.Sp
open Go Go.ChangeShapes Go.WideShapes Go.ChangeAt Go.RowKit

/-- All blocks of a world. -/
def allB (W : World) : Hp := W.heap.toList.zipIdx.map (fun p => (p.2, p.1))
theorem mem_allB {W : World} {i : Nat} {o : Obj} : (i, o) ∈ allB W ↔ W.heap[i]? = some o := by
  simp only [allB, List.mem_map, Prod.mk.injEq, Prod.exists]
  constructor
  · rintro ⟨a, b, h, rfl, rfl⟩
    have := List.mem_zipIdx_iff_getElem?.1 h
    simpa using this
  · intro h
    exact ⟨o, i, List.mem_zipIdx_iff_getElem?.2 (by simpa using h), rfl, rfl⟩
theorem nodup_zip (l : List Obj) : ∀ k, ((l.zipIdx k).map (fun p => (p.2, p.1))).map (·.1) = List.range' k l.length := by
  induction l with
  | nil => intro k; rfl
  | cons a l ih => intro k; simp [ih, List.range'_succ]
theorem fits_all (W : World) : Fits W W (allB W) := by
  refine ⟨⟨rfl, Nat.le_refl _⟩, rfl, rfl, ?_, ?_⟩
  · rw [allB, nodup_zip]; exact List.nodup_range' ..
  · rintro ⟨i, o⟩ h; exact mem_allB.1 h
theorem below_of {W W' : World} (h : Fits W W' (allB W)) : Below W.heap.size W W' := by
  have hb : ∀ k, k < W.heap.size → W'.heap[k]? = W.heap[k]? := fun k hk => by
    have e : W.heap[k]? = some W.heap[k] := by simp [hk]
    rw [e]; exact h.here _ (mem_allB.2 e)
  refine ⟨h.os.1, h.tape, h.output, ?_, hb⟩
  rcases Nat.eq_zero_or_pos W.heap.size with h0 | h0
  · omega
  · have := hb (W.heap.size - 1) (by omega)
    rw [show W.heap[W.heap.size - 1]? = some W.heap[W.heap.size - 1] by simp [h0]] at this
    have := (Array.getElem?_eq_some_iff.1 this).1
    omega
theorem cellIn_all {W : World} {a : Addr} {v : Value} (h : W.cell? a = some v) : CellIn (allB W) a v := by
  unfold World.cell? at h
  split at h
  · rename_i c e fr hb
    cases hs : a.spot with
    | none =>
      rw [hs] at h
      exact ⟨hs, c, e, fr, mem_allB.2 hb, by simpa using h⟩
    | some q => rw [hs] at h; cases h
  · cases h

/-! ### What a reading tells -/
def inI (k : IntKind) (n : Int) : Prop := k.min ≤ n ∧ n ≤ k.max
/-- Whatever reads at this type lies as this kind has it. -/
def Opn {α : Type} (P : Program) (t : TypeId) (K : Kd α) (Wf : α → Prop) : Prop :=
  ∀ {H : Type} (enc : TypeId × Value → H) (W : World) (base : Nat) (sp : Nat → Bool) (held : Bool) (fuel : Nat) (cs : List Value) (x : DataW H × List MemPlace), DataW.trod enc P W base sp held fuel t cs = some x → ∃ a, K.rd (allB W) cs a ∧ Wf a
section
variable {P : Program} {t e : TypeId} {α β : Type} {K : Kd α} {Wf : α → Prop} {K' : Kd β} {Wf' : β → Prop}
theorem opnInt {k : IntKind} (hu : P.underlying t = some (.int k)) : Opn P t (kInt k) (inI k) := by
  intro H enc W base sp held fuel cs x h
  obtain ⟨n, rfl, _, hw⟩ := DataW.trod_int hu h
  refine ⟨n, rfl, ?_⟩
  simpa [Lit.wf, inI] using hw
theorem opnBool (hu : P.underlying t = some .bool) : Opn P t kBool (fun _ => True) := by
  intro H enc W base sp held fuel cs x h
  obtain ⟨n, rfl, _⟩ := DataW.trod_bool hu h
  exact ⟨n, rfl, trivial⟩
theorem opnStr (hu : P.underlying t = some .string) : Opn P t kStr (fun s => s.size ≤ maxLen) := by
  intro H enc W base sp held fuel cs x h
  obtain ⟨n, rfl, _, hw⟩ := DataW.trod_string hu h
  exact ⟨n, rfl, hw⟩
theorem cells?_get {W : World} {base : Nat} {a : Addr} {n : Nat} {cs : List Value} (h : W.cells? base a n = some cs) : ∀ j v, cs[j]? = some v → W.cell? (a.add j) = some v := by
  unfold World.cells? at h
  split at h
  · intro j v hv
    have key : ∀ (l : List Nat) (cs : List Value), (l.mapM fun i => W.cell? (a.add i)) = some cs → ∀ (j : Nat) (v : Value), cs[j]? = some v → ∃ i : Nat, l[j]? = some i ∧ W.cell? (a.add i) = some v := by
      intro l
      induction l with
      | nil => intro cs h j v hv; simp at h; subst h; simp at hv
      | cons i l ih =>
        intro cs h j v hv
        simp only [List.mapM_cons] at h
        cases hi : W.cell? (a.add i) with
        | none => simp [hi] at h
        | some u =>
          cases hm : (l.mapM fun i => W.cell? (a.add i)) with
          | none => simp [hi, hm] at h
          | some r =>
            simp [hi, hm] at h
            subst h
            cases j with
            | zero => simp at hv; subst hv; exact ⟨i, rfl, hi⟩
            | succ j => simp at hv ⊢; exact ih r hm j v hv
    obtain ⟨i, h1, h2⟩ := key _ _ h j v hv
    have : i = j := by
      have := List.getElem?_range (n := n) (i := j)
      rcases Nat.lt_or_ge j n with hj | hj
      · rw [List.getElem?_range hj] at h1; exact (Option.some.inj h1).symm
      · rw [List.getElem?_eq_none (by simpa using hj)] at h1; cases h1
    subst this
    exact h2
  · cases h
theorem cell_spot {W : World} {a : Addr} {v : Value} (h : W.cell? a = some v) : a.spot = none := (cellIn_all h).1
theorem opnSl (hu : P.underlying t = some (.slice e)) (hs : P.cellsOf e = K.sz) (hp : 0 < K.sz) (ho : Opn P e K Wf) : Opn P t (kSl K) (fun xs => xs.length ≤ maxLen ∧ ∀ x ∈ xs, Wf x) := by
  intro H enc W base sp held fuel cs x h
  rcases DataW.trod_slice hu h with ⟨rfl, _⟩ | ⟨a, len, cap, elems, rest, n, _, rfl, _, _, hlc, hcm, hel, helem, _⟩
  · exact ⟨[], ⟨none, 0, rfl, RdS.nil⟩, by simp, by simp⟩
  · have hone : ∀ i, i < len → ∃ y cs, K.rd (allB W) cs y ∧ Wf y ∧ ∀ j v, cs[j]? = some v → W.cell? ((a.add (i * K.sz)).add j) = some v := by
      intro i hi
      have h1 := helem i hi
      have hlt : i < elems.length := by omega
      rw [List.getElem?_eq_getElem hlt] at h1
      obtain ⟨cs, h2, h3⟩ := Option.bind_eq_some_iff.1 h1
      obtain ⟨y, h4, h5⟩ := ho enc W base sp held n cs _ h3
      rw [hs] at h2
      exact ⟨y, cs, h4, h5, cells?_get h2⟩
    have hlist : ∀ m, m ≤ len → ∃ ys : List α, ys.length = m ∧ (∀ y ∈ ys, Wf y) ∧ ∀ i y, ys[i]? = some y → ∃ cs, K.rd (allB W) cs y ∧ ∀ j v, cs[j]? = some v → W.cell? ((a.add (i * K.sz)).add j) = some v := by
      intro m
      induction m with
      | zero => intro _; exact ⟨[], rfl, by simp, by simp⟩
      | succ m ih =>
        intro hm
        obtain ⟨ys, h1, h2, h3⟩ := ih (by omega)
        obtain ⟨y, cs, h4, h5, h6⟩ := hone m (by omega)
        refine ⟨ys ++ [y], by simp [h1], ?_, ?_⟩
        · intro z hz
          rcases List.mem_append.1 hz with hz | hz
          · exact h2 z hz
          · simp at hz; subst hz; exact h5
        · intro i z hz
          rcases Nat.lt_or_ge i ys.length with hi | hi
          · rw [List.getElem?_append_left hi] at hz; exact h3 i z hz
          · rw [List.getElem?_append_right hi] at hz
            have : i = m := by
              have := (List.getElem?_eq_some_iff.1 hz).1
              simp at this; omega
            subst this
            simp [h1] at hz
            subst hz
            exact ⟨cs, h4, h6⟩
    obtain ⟨ys, h1, h2, h3⟩ := hlist len (Nat.le_refl _)
    refine ⟨ys, ⟨some a, cap, by rw [h1], ⟨by omega, ?_⟩⟩, by omega, h2⟩
    rcases Nat.eq_zero_or_pos len with h0 | h0
    · exact .inl (List.eq_nil_of_length_eq_zero (by omega))
    · have hsp : a.spot = none := by
        obtain ⟨y, cs, h4, _, h6⟩ := hone 0 h0
        have hl := K.len h4
        have hc := h6 0 cs[0] (by simp)
        have := cell_spot hc
        simpa [Addr.add] using this
      obtain ⟨g, o, sp'⟩ := a
      simp only at hsp
      subst hsp
      refine .inr ⟨g, o, rfl, fun i y hy => ?_⟩
      obtain ⟨cs, h4, h5⟩ := h3 i y hy
      refine ⟨cs, h4, fun j v hv => ?_⟩
      have hc := h5 j v hv
      have e : (((⟨g, o, none⟩ : Addr).add (i * K.sz)).add j) = ⟨g, o + i * K.sz + j, none⟩ := by
        have : ∀ (b q m : Nat), (⟨b, q, none⟩ : Addr).add m = ⟨b, q + m, none⟩ := by intro b q m; unfold Addr.add; split <;> simp_all
        rw [this, this]
      rw [e] at hc
      exact cellIn_all hc
/-- A struct's fields, one behind the other. -/
def OpnC {α : Type} (P : Program) (fs : List Field) (o : Nat) (K : Kd α) (Wf : α → Prop) : Prop :=
  ∀ {H : Type} (enc : TypeId × Value → H) (W : World) (base : Nat) (sp : Nat → Bool) (held : Bool) (n : Nat) (cs : List Value), (∀ f ∈ fs, ∃ y, DataW.trod enc P W base sp held n f.type ((cs.drop f.offset).take (P.cellsOf f.type)) = some y) → cs.length = o + K.sz → ∃ a, K.rd (allB W) (cs.drop o) a ∧ Wf a
theorem opnC1 {f : Field} {o : Nat} (h : Opn P f.type K Wf) (ho : f.offset = o) (hs : P.cellsOf f.type = K.sz) : OpnC P [f] o K Wf := by
  intro H enc W base sp held n cs hf hl
  obtain ⟨y, hy⟩ := hf f (by simp)
  rw [ho, hs, List.take_of_length_le (by simp; omega)] at hy
  exact h enc W base sp held n _ _ hy
theorem opnC {f : Field} {fs : List Field} {o o' : Nat} (h : Opn P f.type K Wf) (ho : f.offset = o) (hs : P.cellsOf f.type = K.sz) (ho' : o + K.sz = o') (hr : OpnC P fs o' K' Wf') : OpnC P (f :: fs) o (kPair K K') (fun x => Wf x.1 ∧ Wf' x.2) := by
  subst ho'
  intro H enc W base sp held n cs hf hl
  have hl' : cs.length = o + (K.sz + K'.sz) := hl
  obtain ⟨y, hy⟩ := hf f (by simp)
  rw [ho, hs] at hy
  obtain ⟨a, h1, h2⟩ := h enc W base sp held n _ _ hy
  obtain ⟨b, h3, h4⟩ := hr enc W base sp held n cs (fun g hg => hf g (by simp [hg])) (by omega)
  refine ⟨(a, b), ⟨_, _, ?_, h1, h3⟩, h2, h4⟩
  rw [show o + K.sz = K.sz + o by omega, ← List.drop_drop, List.drop_drop, Nat.add_comm K.sz o, ← List.drop_drop, List.take_append_drop]
theorem opnS {fs : Array Field} (hu : P.underlying t = some (.struct fs)) (hc : P.cellsOf t = K.sz) (h : OpnC P fs.toList 0 K Wf) : Opn P t K Wf := by
  intro H enc W base sp held fuel cs x hx
  obtain ⟨xs, n, _, _, hl, hn, hf⟩ := DataW.trod_struct hu hx
  have := h enc W base sp held n cs (fun f hm => by
    obtain ⟨i, hi⟩ := List.getElem?_of_mem hm
    have h1 : fs[i]? = some f := by simpa using hi
    have h2 := hf i f h1
    have h3 : i < xs.length := by
      have := (Array.getElem?_eq_some_iff.1 h1).1
      omega
    exact ⟨xs[i], by rw [h2]; simp [h3]⟩) (by rw [hl, hc]; omega)
  simpa using this
theorem opnIso (h : Opn P t K Wf) {f : β → α} (g : α → β) (hg : ∀ a, f (g a) = a) : Opn P t (kIso K f) (fun b => Wf (f b)) := by
  intro H enc W base sp held fuel cs x hx
  obtain ⟨a, h1, h2⟩ := h enc W base sp held fuel cs x hx
  exact ⟨g a, by show K.rd _ _ (f (g a)); rw [hg]; exact h1, by show Wf (f (g a)); rw [hg]; exact h2⟩
theorem opnFlat (h : Opn P t K Wf) {enc : β → List Value} {n : Nat} {hn : ∀ x, (enc x).length = n} {h1 : ∀ x, ∀ v ∈ enc x, v.oneCell' = true} {f : β → α} (g : α → β) (hg : ∀ a, f (g a) = a) (hc : ∀ L cs b, K.rd L cs (f b) → cs = enc b) : Opn P t (kFlat enc n hn h1) (fun b => Wf (f b)) := by
  intro H en W base sp held fuel cs x hx
  obtain ⟨a, h1, h2⟩ := h en W base sp held fuel cs x hx
  refine ⟨g a, ?_, by show Wf (f (g a)); rw [hg]; exact h2⟩
  refine hc (allB W) _ _ ?_
  rw [hg]; exact h1
end
/-! ### A law's row -/
section
variable {H : Type} {enc : TypeId × Value → H} {P : Program}
theorem trodAll_cons {w : World} {base : Nat} {sp : Nat → Bool} {held : Bool} {t : TypeId} {ts : List TypeId} {vs : List Value} {ds : List (DataW H)} {ps : List MemPlace} (h : DataW.TrodAll enc P w base sp held (t :: ts) vs ds ps) :
    ∃ v vs' d ds' p q, vs = v :: vs' ∧ ds = d :: ds' ∧ DataW.Trod enc P w base sp held t v d p ∧ DataW.TrodAll enc P w base sp held ts vs' ds' q ∧ ps = p ++ q := by
  match vs, ds, h with
  | v :: vs', d :: ds', h => obtain ⟨p, q, h1, h2, h3⟩ := h; exact ⟨v, vs', d, ds', p, q, rfl, rfl, h1, h2, h3⟩
theorem trodAll_nil {w : World} {base : Nat} {sp : Nat → Bool} {held : Bool} {vs : List Value} {ds : List (DataW H)} {ps : List MemPlace} (h : DataW.TrodAll enc P w base sp held [] vs ds ps) : vs = [] ∧ ds = [] := by
  match vs, ds, h with
  | [], [], _ => exact ⟨rfl, rfl⟩
theorem trodAll_stays (hl : laidOutB P = true) {W W' : World} (hb : Below W.heap.size W W') : ∀ (ts : List TypeId) (vs : List Value) (ds : List (DataW H)) (ps : List MemPlace), (∀ t ∈ ts, P.readableRec t = true ∧ t < P.types.size) → (∀ x ∈ ps, x.block < W.heap.size) →
    DataW.TrodAll enc P W 0 (fun _ => true) true ts vs ds ps → DataW.TrodAll enc P W' 0 (fun b => decide (b < W.heap.size)) true ts vs ds ps
  | [], vs, ds, ps, _, _, h => by
    match vs, ds, h with
    | [], [], h => exact h
  | t :: ts, vs, ds, ps, hr, hlt, h => by
    match vs, ds, h with
    | v :: vs', d :: ds', h =>
      obtain ⟨p, q, h1, h2, rfl⟩ := h
      refine ⟨p, q, Below.trod hl (hr t (by simp)).1 (hr t (by simp)).2 h1 hb (fun x hx => hlt x (by simp [hx])), ?_, rfl⟩
      exact trodAll_stays hl hb ts vs' ds' q (fun u hu => hr u (by simp [hu])) (fun x hx => hlt x (by simp [hx])) h2
theorem law_close {f : Func} {k : FuncId} {s : ChangeSpec} {W : World} {args : Array Value} {ds gs : List (DataW H)} {before : List MemPlace} {b : TypeId}
    (hl : laidOutB P = true) (hres : f.resultTypes = #[b]) (hb : P.underlying b = some .bool) (hv : s.vars = []) (hrd : ∀ t ∈ f.params.toList, P.readableRec t = true ∧ t < P.types.size)
    (hW : DataW.Whole enc P f.params.toList s.vars false W args.toList ds gs before) (hfn : s.fn H ds = { results := [.lit (.bool true)], args := ds })
    (hc : Calls P k args W fun e W' => e = .returned (.bool true) ∧ Fits W W' (allB W)) : Calls P k args W fun e W' => ∃ v, e = .returned v ∧ s.post enc P f false true false false W args v W' := by
  refine hc.mono fun e W' ⟨he, hF⟩ => ?_
  subst he
  refine ⟨_, rfl, ?_⟩
  have hbl := below_of hF
  have hW0 := hW
  obtain ⟨p, q, hA, hV, rfl, hfz, hnd⟩ := hW
  rw [hv] at hV
  obtain ⟨rfl, rfl⟩ := trodVars_none hV
  have hlt : ∀ x ∈ p, x.block < W.heap.size := fun x hx => hW0.lt x (by simp [hx])
  refine ⟨ds, [], p ++ [], [], p, [], hW0, ?_, ?_, ?_, hbl.frame _, fun h => by cases h⟩
  · rw [hres, List.append_nil, hfn]
    exact trodAll_mk1 (shut_bool hb _)
  · rw [List.append_nil, hfn]
    exact trodAll_stays hl hbl _ _ _ _ hrd hlt hA
  · rw [List.append_nil, hfn, hv]
    rfl
end
end Go.Proofs.Ytbjnbjgiidcfjaa.Sp
