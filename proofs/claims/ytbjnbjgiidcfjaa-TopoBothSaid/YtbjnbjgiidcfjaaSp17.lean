/- The walk's own rules, part 17: maps of one's own, with whole numbers for keys. -/
import Derived.Test.YtbjnbjgiidcfjaaSp16
set_option linter.unusedVariables false
set_option linter.unusedSimpArgs false
namespace Go.Proofs.Ytbjnbjgiidcfjaa.Sp
open Go
/-- A map's value: its block's number stands in an address. -/
def mapV (A : Option Addr) : Value := .map (A.map (·.block))
def mGetD {α : Type} (d : α) : List (Int × α) → Int → α
  | [], _ => d
  | p :: r, n => if p.1 = n then p.2 else mGetD d r n
def mHas {α : Type} : List (Int × α) → Int → Bool
  | [], _ => false
  | p :: r, n => if p.1 = n then true else mHas r n
def mPut {α : Type} : List (Int × α) → Int → α → List (Int × α)
  | [], n, x => [(n, x)]
  | p :: r, n, x => if p.1 = n then (n, x) :: r else p :: mPut r n x
def Ents {α : Type} (K : Kd α) : List MapEntry → List (Int × α) → Prop
  | [], [] => True
  | e :: es, p :: ps => (e.key = .int .i64 p.1 ∧ ∃ cs, e.val = .agg cs.toArray ∧ K.own [] cs p.2) ∧ Ents K es ps
  | _, _ => False
def OwnM {α : Type} (K : Kd α) (L : Hp) (A : Option Addr) (c : Nat) (ps : List (Int × α)) : Prop :=
  ∃ g es ck, A = some ⟨g, 0, none⟩ ∧ L = [(g, .map es ck)] ∧ Ents K es.toList ps
section
variable {P : Program} {E : List (Nat × Value)} {z w : World} {v : Value} {x y q : Operand} {t kt et : TypeId} {L R : Hp} {α : Type} {K K' : Kd α} {A : Option Addr} {c : Nat} {ps : List (Int × α)} {n : Int} {cs : List Value} {d a : α}
theorem Ents.imp (f : ∀ L cs x, K.own L cs x → K'.own L cs x) : ∀ {es : List MapEntry} {ps : List (Int × α)}, Ents K es ps → Ents K' es ps
  | [], [], _ => trivial
  | _ :: _, _ :: _, ⟨⟨h1, cs, h2, h3⟩, h⟩ => ⟨⟨h1, cs, h2, f _ _ _ h3⟩, Ents.imp f h⟩
  | [], _ :: _, h => h.elim
  | _ :: _, [], h => h.elim
theorem OwnM.lift {G G' : Hp} (H : OwnM (kShr G K) L A c ps) (hG : G ⊆ G') : OwnM (kShr G' K) L A c ps := by
  obtain ⟨g, es, ck, h1, h2, h3⟩ := H
  exact ⟨g, es, ck, h1, h2, h3.imp (K := kShr G K) (K' := kShr G' K) (fun L cs x h => ⟨h.1, K.mono h.2 hG⟩)⟩
theorem ents_app : ∀ {es : List MapEntry} {ps : List (Int × α)} {e : MapEntry} {p : Int × α}, Ents K es ps → e.key = .int .i64 p.1 → e.val = .agg cs.toArray → K.own [] cs p.2 → Ents K (es ++ [e]) (ps ++ [p])
  | [], [], e, p, _, h1, h2, h3 => ⟨⟨h1, cs, h2, h3⟩, trivial⟩
  | _ :: _, _ :: _, _, _, ⟨h, hs⟩, h1, h2, h3 => ⟨h, ents_app hs h1 h2 h3⟩
  | [], _ :: _, _, _, h, _, _, _ => h.elim
  | _ :: _, [], _, _, h, _, _, _ => h.elim
theorem find_ents : ∀ (es : List MapEntry) (ps : List (Int × α)) (i : Nat), Ents K es ps →
    (Instr.findNow (.int .i64) (.int .i64 n) es i = some none ∧ mHas ps n = false ∧ mGetD d ps n = d ∧ mPut ps n a = ps ++ [(n, a)]) ∨
    ∃ j e cs, Instr.findNow (.int .i64) (.int .i64 n) es i = some (some (i + j, .agg cs.toArray)) ∧ mHas ps n = true ∧ K.own [] cs (mGetD d ps n) ∧ es[j]? = some e ∧ e.key = .int .i64 n ∧
      ∀ (f : MapEntry → MapEntry) (c2 : List Value), (f e).key = .int .i64 n → (f e).val = .agg c2.toArray → K.own [] c2 a → Ents K (es.modify j f) (mPut ps n a)
  | [], [], i, _ => .inl ⟨rfl, rfl, rfl, rfl⟩
  | [], _ :: _, _, h => h.elim
  | _ :: _, [], _, h => h.elim
  | e :: es, p :: ps, i, ⟨⟨h1, cs, h2, h3⟩, h⟩ => by
    obtain ⟨k, b⟩ := p
    simp only at h1 h3
    by_cases hk : k = n
    · subst hk
      right
      refine ⟨0, e, cs, ?_, by simp [mHas], by simpa [mGetD] using h3, rfl, h1, ?_⟩
      · simp [Instr.findNow, h1, Instr.sameNow, h2]
      · intro f c2 hf1 hf2 hf3
        have e1 : mPut ((k, b) :: ps) k a = (k, a) :: ps := by simp [mPut]
        rw [e1]
        exact ⟨⟨hf1, c2, hf2, hf3⟩, h⟩
    · have hne : ¬ n = k := fun q => hk q.symm
      have hstep : Instr.findNow (.int .i64) (.int .i64 n) (e :: es) i = Instr.findNow (.int .i64) (.int .i64 n) es (i + 1) := by
        have hb : (n == k) = false := by simpa using hne
        simp [Instr.findNow, h1, Instr.sameNow, hb]
      rcases find_ents es ps (i + 1) h with ⟨g1, g2, g3, g4⟩ | ⟨j, e', cs', g1, g2, g3, g4, g5, g6⟩
      · left
        refine ⟨by rw [hstep]; exact g1, by simp [mHas, hk, g2], by simp [mGetD, hk, g3], by simp [mPut, hk, g4]⟩
      · right
        refine ⟨j + 1, e', cs', by rw [hstep, g1]; congr 3; omega, by simp [mHas, hk, g2], by simpa [mGetD, hk] using g3, by simpa using g4, g5, ?_⟩
        intro f c2 hf1 hf2 hf3
        have e1 : mPut ((k, b) :: ps) n a = (k, b) :: mPut ps n a := by simp [mPut, hk]
        rw [e1, List.modify_succ_cons]
        exact ⟨⟨h1, cs, h2, h3⟩, g6 f c2 hf1 hf2 hf3⟩
theorem run_getObj' {g ck : Nat} {es : Array MapEntry} (h : w.heap[g]? = some (.map es ck)) : (getObj g).run P w = .ok (.map es ck) w := by simp [getObj, Sem.run, h]
theorem run_setObj' {g ck : Nat} {es : Array MapEntry} (o' : Obj) (h : w.heap[g]? = some (.map es ck)) : (setObj g o').run P w = .ok () { w with heap := w.heap.setIfInBounds g o' } := by simp [setObj, Sem.run, h]
theorem run_check (hk : P.underlying kt = some (.int .i64)) (b : Bool) (k : Nat) : (Instr.checkKey b (k + 1) kt (.int .i64 n)).run P w = .ok () w := by
  simp [Instr.checkKey, run_underlying hk]
theorem run_findKey (hk : P.underlying kt = some (.int .i64)) {es : List MapEntry} {r : Option (Nat × Value)} (h : Instr.findNow (.int .i64) (.int .i64 n) es 0 = some r) : (Instr.findKey kt (.int .i64 n) es).run P w = .ok r w := by
  simp [Instr.findKey, run_underlying hk, h]
theorem oMkMap (HF : Fits z w R) : ∃ u w', RunW P E w (.makeMap t none) u w' ∧ ∃ L A c, u = mapV A ∧ Fits z w' (L ++ R) ∧ OwnM K L A c ([] : List (Int × α)) := by
  refine ⟨_, _, fun n a _ _ _ _ _ hE => ?_, [(w.heap.size, .map #[] 0)], some ⟨w.heap.size, 0, none⟩, 0, rfl, HF.alloc _, ⟨_, _, _, rfl, rfl, trivial⟩⟩
  simp [execOp, Instr.makeMap, newObj, mapV]
  rfl
theorem lookB {ds : TypeDesc} {zc : List Value} {sz by_ : Nat} (d : α) (n : Int) (ho : OwnM K L A c ps) (hu : P.underlying t = some (.map kt et)) (hk : P.underlying kt = some (.int .i64)) (TT : TI P et ds (.agg zc.toArray) sz by_) (hz : K.own [] zc d) :
    ∃ cs, (∀ {w : World} {R : Hp}, Fits z w R → L ⊆ R → (Instr.lookup t (mapV A) (.int .i64 n) true).run P w = .ok (.tuple #[.agg cs.toArray, .bool (mHas ps n)]) w) ∧ (∀ {w : World} {R : Hp}, Fits z w R → L ⊆ R → (Instr.lookup t (mapV A) (.int .i64 n) false).run P w = .ok (.agg cs.toArray) w) ∧ K.own [] cs (mGetD d ps n) := by
  obtain ⟨g, es, ck, rfl, rfl, he⟩ := ho
  have hgg : ∀ {w : World} {R : Hp}, Fits z w R → [(g, Obj.map es ck)] ⊆ R → w.heap[g]? = some (.map es ck) := fun HF hL => HF.here _ (hL (List.mem_cons_self ..))
  rcases find_ents (n := n) (d := d) (a := d) es.toList ps 0 he with ⟨g1, g2, g3, g4⟩ | ⟨j, e', cs', g1, g2, g3, g4, g5, g6⟩
  · refine ⟨zc, ?_, ?_, by rw [g3]; exact hz⟩ <;>
    · intro w R HF hL
      have hg := hgg HF hL
      simp [Instr.lookup, mapV, run_underlying hu, run_getObj' hg, run_check (P := P) (w := w) hk, run_findKey (P := P) (w := w) hk g1, TT.zero w, g2]
  · refine ⟨cs', ?_, ?_, g3⟩ <;>
    · intro w R HF hL
      have hg := hgg HF hL
      simp [Instr.lookup, mapV, run_underlying hu, run_getObj' hg, run_check (P := P) (w := w) hk, run_findKey (P := P) (w := w) hk g1, g2]
theorem lookR {b : Bool} {m : Value} {r : Value} (h : (Instr.lookup t m (.int .i64 n) b).run P w = .ok r w) (hx : lv E x = some m) (hy : lv E y = some (.int .i64 n)) : Run P E w (.lookup t x y b) r := fun nn a _ _ _ _ _ hE => by simp [execOp, hE.ev hx, hE.ev hy, h]
theorem oMUpd (HF : Fits z w (L ++ R)) (ho : OwnM K L A c ps) (hx : lv E x = some (mapV A)) (hy : lv E y = some (.int .i64 n)) (hv : lv E q = some (.agg cs.toArray)) (hu : P.underlying t = some (.map kt et)) (hk : P.underlying kt = some (.int .i64)) (ha : K.own [] cs a) :
    ∃ w', RunS P E w (.mapUpdate t x y q) w' ∧ ∃ L', Fits z w' (L' ++ R) ∧ OwnM K L' A c (mPut ps n a) := by
  obtain ⟨g, es, ck, rfl, rfl, he⟩ := ho
  have hg := HF.here _ (List.mem_cons_self ..)
  simp only at hg
  have hlt := HF.lt (List.mem_cons_self ..)
  simp only at hlt
  have hset : ∀ o : Obj, Fits z { w with heap := w.heap.setIfInBounds g o } ((g, o) :: R) := by
    intro o
    refine ⟨HF.os, HF.tape, HF.output, by simpa using HF.nodup, ?_⟩
    intro p hp
    rcases List.mem_cons.1 hp with rfl | hp
    · simp [hlt]
    · have hne : p.1 ≠ g := by
        intro hh
        have := HF.nodup
        simp only [List.singleton_append, List.map_cons, List.nodup_cons, List.mem_map, not_exists, not_and] at this
        exact this.1 p hp hh
      have := HF.here p (List.mem_cons_of_mem _ hp)
      simp only [Array.getElem?_setIfInBounds]
      rw [if_neg (Ne.symm hne)]
      exact this
  rcases find_ents (n := n) (d := a) (a := a) es.toList ps 0 he with ⟨g1, g2, g3, g4⟩ | ⟨j, e', cs', g1, g2, g3, g4, g5, g6⟩
  · refine ⟨{ w with heap := w.heap.setIfInBounds g (.map (es.push { key := .int .i64 n, val := .agg cs.toArray, born := ck }) (ck + 1)) }, fun nn a _ _ _ _ _ hE => ?_, [(g, _)], hset _, g, _, _, rfl, rfl, ?_⟩
    · simp [execOp, hE.ev hx, hE.ev hy, hE.ev hv, Instr.mapUpdate, mapV, run_underlying hu, run_getObj' hg, run_check (P := P) (w := w) hk, run_findKey (P := P) (w := w) hk g1, run_setObj' (P := P) _ hg]
    · rw [g4, Array.toList_push]
      exact ents_app he rfl rfl ha
  · have hj : es[j]? = some e' := by simpa using g4
    refine ⟨{ w with heap := w.heap.setIfInBounds g (.map (es.modify j fun e => { e with key := .int .i64 n, val := .agg cs.toArray }) ck) }, fun nn a _ _ _ _ _ hE => ?_, [(g, _)], hset _, g, _, _, rfl, rfl, ?_⟩
    · have hsb : Instr.sameBits 10000 (.int .i64 n) (.int .i64 n) = true := by simp [Instr.sameBits]
      simp [execOp, hE.ev hx, hE.ev hy, hE.ev hv, Instr.mapUpdate, mapV, run_underlying hu, run_getObj' hg, run_check (P := P) (w := w) hk, run_findKey (P := P) (w := w) hk g1, run_setObj' (P := P) _ hg, hj, g5, Instr.keyThatStays, hsb]
    · rw [Array.toList_modify]
      exact g6 _ cs rfl rfl ha
end
end Go.Proofs.Ytbjnbjgiidcfjaa.Sp
