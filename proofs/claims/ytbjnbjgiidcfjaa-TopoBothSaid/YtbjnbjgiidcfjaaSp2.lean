/- The walk's own rules, part 2: memory as a list of blocks; what plain operations yield. -/
import Derived.Test.YtbjnbjgiidcfjaaSp1
set_option linter.unusedVariables false
set_option linter.unusedSimpArgs false
namespace Go.Proofs.Ytbjnbjgiidcfjaa.Sp
open Go

abbrev Hp := List (Nat × Obj)
/-- A block of cells. -/
abbrev bk (g : Nat) (T : TypeId) (l : List Value) : Nat × Obj := (g, .cells l.toArray T (0, 0))
/-- These blocks lie in the world, each number once; the streams are those of z. -/
structure Fits (z w : World) (L : Hp) : Prop where
  os : w.os = z.os ∧ z.drawn ≤ w.drawn
  tape : w.tape = z.tape
  output : w.output = z.output
  nodup : (L.map (·.1)).Nodup
  here : ∀ p ∈ L, w.heap[p.1]? = some p.2
section
variable {z w : World} {L L' A B C D F G R : Hp}
theorem Fits.lt (h : Fits z w L) {p : Nat × Obj} (hp : p ∈ L) : p.1 < w.heap.size := (Array.getElem?_eq_some_iff.1 (h.here p hp)).1
theorem Fits.perm (h : Fits z w L) (p : L.Perm L') : Fits z w L' := ⟨h.os, h.tape, h.output, (p.map _).nodup_iff.1 h.nodup, fun q hq => h.here q (p.mem_iff.2 hq)⟩
theorem Fits.drew (h : Fits z w L) : Fits z w.drew L := ⟨⟨h.os.1, Nat.le_succ_of_le h.os.2⟩, h.tape, h.output, h.nodup, h.here⟩
theorem Fits.draw (h : Fits z w L) : Fits z { w with drawn := w.drawn + 1 } L := ⟨⟨h.os.1, Nat.le_succ_of_le h.os.2⟩, h.tape, h.output, h.nodup, h.here⟩
theorem Fits.drop (h : Fits z w (A ++ R)) : Fits z w R :=
  ⟨h.os, h.tape, h.output, by have := h.nodup; rw [List.map_append] at this; exact (List.nodup_append.1 this).2.1, fun q hq => h.here q (List.mem_append_right _ hq)⟩
theorem Fits.drop1 {p : Nat × Obj} (h : Fits z w (p :: R)) : Fits z w R := Fits.drop (A := [p]) h
theorem Fits.alloc (h : Fits z w L) (o : Obj) : Fits z (w.alloc o) ((w.heap.size, o) :: L) := by
  refine ⟨h.os, h.tape, h.output, ?_, ?_⟩
  · simp only [List.map_cons, List.nodup_cons, List.mem_map, not_exists, not_and]
    exact ⟨fun p hp he => by have := h.lt hp; omega, h.nodup⟩
  · intro p hp
    rcases List.mem_cons.1 hp with rfl | hp
    · exact heap_alloc_new w o
    · have e : (w.alloc o).heap[p.1]? = w.heap[p.1]? := by
        show (w.heap.push o)[p.1]? = _
        rw [Array.getElem?_push, if_neg (Nat.ne_of_lt (h.lt hp))]
      rw [e]; exact h.here p hp
/-- The first block turns to another one. -/
theorem Fits.setRow {g : Nat} {c c' : Array Value} {T : TypeId} {fr : Nat × Nat} (h : Fits z w ((g, .cells c T fr) :: R)) : Fits z (w.setRow g c') ((g, .cells c' T fr) :: R) := by
  have hg := h.here _ (List.mem_cons_self ..)
  refine ⟨h.os, h.tape, h.output, by simpa using h.nodup, ?_⟩
  intro p hp
  rcases List.mem_cons.1 hp with rfl | hp
  · exact setRow_heap w g c c' T fr hg
  · have hne : p.1 ≠ g := by
      intro he
      have := h.nodup
      simp only [List.map_cons, List.nodup_cons, List.mem_map, not_exists, not_and] at this
      exact this.1 p hp he
    rw [setRow_other w g p.1 c' hne]
    exact h.here p (List.mem_cons_of_mem _ hp)
/-! rotations: the k-th part comes to the front -/
theorem Fits.f1 (h : Fits z w (A ++ (B ++ R))) : Fits z w (B ++ (A ++ R)) := h.perm (by rw [← List.append_assoc, ← List.append_assoc]; exact List.perm_append_comm.append_right _)
theorem perm_f {A B R R' : Hp} (h : R.Perm (B ++ R')) : (A ++ R).Perm (B ++ (A ++ R')) :=
  (h.append_left A).trans (by rw [← List.append_assoc, ← List.append_assoc]; exact List.perm_append_comm.append_right _)
theorem perm_c {p : Nat × Obj} {B R R' : Hp} (h : R.Perm (B ++ R')) : (p :: R).Perm (B ++ (p :: R')) := perm_f (A := [p]) h
/-- The same, for a part that is one block. -/
theorem perm_f1 {A R R' : Hp} {b : Nat × Obj} (h : R.Perm (b :: R')) : (A ++ R).Perm (b :: (A ++ R')) := perm_f (B := [b]) h
theorem perm_c1 {p : Nat × Obj} {R R' : Hp} {b : Nat × Obj} (h : R.Perm (b :: R')) : (p :: R).Perm (b :: (p :: R')) := perm_f (A := [p]) (B := [b]) h
theorem perm_assoc {A B R : Hp} : ((A ++ B) ++ R).Perm (A ++ (B ++ R)) := by rw [List.append_assoc]
/-- A cell of a block. -/
def CellIn (X : Hp) (a : Addr) (v : Value) : Prop := a.spot = none ∧ ∃ c T fr, (a.block, Obj.cells c T fr) ∈ X ∧ c[a.off]? = some v
theorem CellIn.mono {X Y : Hp} {a : Addr} {v : Value} (h : CellIn X a v) (hs : X ⊆ Y) : CellIn Y a v := by
  obtain ⟨h1, c, T, fr, h2, h3⟩ := h
  exact ⟨h1, c, T, fr, hs h2, h3⟩
theorem Fits.cell (h : Fits z w L) {a : Addr} {v : Value} (hc : CellIn L a v) : w.cell? a = some v := by
  obtain ⟨h1, c, T, fr, h2, h3⟩ := hc
  have := h.here _ h2
  simp only at this
  simp [World.cell?, this, h1, h3]
theorem Fits.cells (h : Fits z w L) {X : Hp} {a : Addr} {v : Value} (hs : X ⊆ L) (hc : CellIn X a v) : w.cell? a = some v := h.cell (hc.mono hs)
/-- A cell of a block of one's own. -/
theorem Fits.box (h : Fits z w L) {g : Nat} {T : TypeId} {l : List Value} (hm : bk g T l ∈ L) {o : Nat} {v : Value} (ho : l[o]? = some v) : w.cell? ⟨g, o, none⟩ = some v :=
  h.cell ⟨rfl, l.toArray, T, (0, 0), hm, by simpa using ho⟩
theorem Fits.boxes (h : Fits z w L) {g : Nat} {T : TypeId} {l : List Value} (hm : bk g T l ∈ L) {o n : Nat} {cs : List Value} (hc : (l.drop o).take n = cs) : ∀ j v, cs[j]? = some v → w.cell? ⟨g, o + j, none⟩ = some v := by
  intro j v hv
  refine h.box hm ?_
  rw [← hc, List.getElem?_take] at hv
  split at hv
  · rw [List.getElem?_drop] at hv; exact hv
  · cases hv
theorem sub_c {X R : Hp} {p : Nat × Obj} (h : X ⊆ R) : X ⊆ p :: R := fun _ hx => List.mem_cons_of_mem _ (h hx)
theorem sub_a {X R A : Hp} (h : X ⊆ R) : X ⊆ A ++ R := fun _ hx => List.mem_append_right _ (h hx)
theorem sub_h {X R : Hp} : X ⊆ X ++ R := fun _ hx => List.mem_append_left _ hx
theorem sub_hh {X A R : Hp} (h : X ⊆ A) : X ⊆ A ++ R := fun _ hx => List.mem_append_left _ (h hx)
theorem sub_r {X : Hp} : X ⊆ X := fun _ hx => hx
theorem mem_h {p : Nat × Obj} {R : Hp} : p ∈ p :: R := List.mem_cons_self ..
theorem mem_c {p q : Nat × Obj} {R : Hp} (h : p ∈ R) : p ∈ q :: R := List.mem_cons_of_mem _ h
theorem mem_a {p : Nat × Obj} {A R : Hp} (h : p ∈ R) : p ∈ A ++ R := List.mem_append_right _ h
end

/-! ### The program's tables -/
/-- A type's row: its form, its zero value, its cells, its bytes. -/
structure TI (P : Program) (t : TypeId) (d : TypeDesc) (z : Value) (sz bytes : Nat) : Prop where
  under : P.underlying t = some d
  info : ∃ i, P.info? t = some i ∧ i.zero = some z ∧ i.size = sz ∧ i.bytes = bytes
theorem TI.mk' {P : Program} {t : TypeId} {d : TypeDesc} {z : Value} {sz bytes : Nat} (h : P.underlying t = some d) (hi : (P.info? t).map (fun i => (i.zero, i.size, i.bytes)) = some (some z, sz, bytes)) : TI P t d z sz bytes := by
  obtain ⟨i, hi, hzz⟩ := Option.map_eq_some_iff.1 hi
  simp only [Prod.mk.injEq] at hzz
  exact ⟨h, i, hi, hzz.1, hzz.2.1, hzz.2.2⟩
def aggB : TypeDesc → Bool | .struct _ => true | .array _ _ => true | _ => false
section
variable {P : Program} {t : TypeId} {d : TypeDesc} {zv : Value} {sz bytes : Nat}
theorem TI.size (T : TI P t d zv sz bytes) (w : World) : (sizeOf t).run P w = .ok sz w := by
  obtain ⟨i, hi, _, hs, _⟩ := T.info
  simp [sizeOf, typeInfo, hi, hs]
theorem TI.agg (T : TI P t d zv sz bytes) (w : World) : (isAgg t).run P w = .ok (aggB d) w := by
  unfold isAgg
  rw [Sem.run_bind, run_underlying T.under w]
  cases d <;> rfl
theorem TI.zero (T : TI P t d zv sz bytes) (w : World) : (zeroValue t).run P w = .ok zv w := by
  obtain ⟨i, hi, hz, _, _⟩ := T.info
  simp [zeroValue, typeInfo, hi, hz]
end
/-! ### What plain operations yield -/
section
variable {P : Program} {E : List (Nat × Value)} {w : World} {x y c a b : Operand} {v u : Value} {t t' : TypeId} {k k' : IntKind} {m n : Int}
theorem mv (h : lv E x = some v) : Run P E w (.move x) v := fun n a _ _ _ _ _ hE => by simp [execOp, hE.ev h]
theorem asg (h : lv E x = some v) : Run P E w (.assign x) v := fun n a _ _ _ _ _ hE => by simp [execOp, hE.ev h]
theorem pkT (hc : lv E c = some (.bool true)) (h : lv E a = some v) : Run P E w (.pick c a b) v := fun n ac _ _ _ _ _ hE => by simp [execOp, hE.ev hc, hE.ev h, asBool]
theorem pkF (hc : lv E c = some (.bool false)) (h : lv E b = some v) : Run P E w (.pick c a b) v := fun n ac _ _ _ _ _ hE => by simp [execOp, hE.ev hc, hE.ev h, asBool]
theorem nc {p : Addr} (h : lv E x = some (.pointer (some p))) : Run P E w (.nilCheck x) (.pointer (some p)) := fun n a _ _ _ _ _ hE => by simp [execOp, hE.ev h]
theorem run_bin {op : BinOp} (hx : lv E x = some u) (hy : lv E y = some v) {r : Value} (hg : (eqGuard op t x y u v).run P w = .ok () w) (h : (binOp op t u v).run P w = .ok r w) : Run P E w (.binOp op t x y t') r := fun n a _ _ _ _ _ hE => by
  simp [execOp, hE.ev hx, hE.ev hy, hg, h]
theorem beqI (m n : Int) : (m == n) = decide (m = n) := by rw [Bool.eq_iff_iff]; simp
theorem eqI_bool (d : Nat) {p q : Bool} (hu : P.underlying t = some .bool) : (Op.equalIn (d + 1) t (.bool p) (.bool q)).run P w = .ok (p == q) w := by simp [Op.equalIn, run_underlying hu]
theorem eqI_ptr0 (d : Nat) {p : Option Addr} {e : TypeId} (hu : P.underlying t = some (.pointer e)) : (Op.equalIn (d + 1) t (.pointer p) (.pointer none)).run P w = .ok p.isNone w := by cases p <;> simp [Op.equalIn, run_underlying hu]
theorem eqI_at {u v : Value} : Op.equal t u v = Op.equalIn (9999 + 1) t u v := rfl
theorem eqg_int {op : BinOp} : (eqGuard op t x y (.int k m) (.int k' n)).run P w = .ok () w := by unfold eqGuard; split <;> rfl
theorem eqg_bool {op : BinOp} {p q : Bool} : (eqGuard op t x y (.bool p) (.bool q)).run P w = .ok () w := by unfold eqGuard; split <;> rfl
theorem eqg_ptr {op : BinOp} {p q : Option Addr} : (eqGuard op t x y (.pointer p) (.pointer q)).run P w = .ok () w := by unfold eqGuard; split <;> rfl
theorem eqg_str {op : BinOp} {p q : ByteArray} : (eqGuard op t x y (.string p) (.string q)).run P w = .ok () w := by unfold eqGuard; split <;> rfl
theorem bAdd (hx : lv E x = some (.int k m)) (hy : lv E y = some (.int k n)) : Run P E w (.binOp .add t x y t') (.int k (k.wrap (m + n))) := run_bin hx hy eqg_int (by simp [binOp, Op.intArith])
theorem bSub (hx : lv E x = some (.int k m)) (hy : lv E y = some (.int k n)) : Run P E w (.binOp .sub t x y t') (.int k (k.wrap (m - n))) := run_bin hx hy eqg_int (by simp [binOp, Op.intArith])
theorem bMul (hx : lv E x = some (.int k m)) (hy : lv E y = some (.int k n)) : Run P E w (.binOp .mul t x y t') (.int k (k.wrap (m * n))) := run_bin hx hy eqg_int (by simp [binOp, Op.intArith])
theorem bQuo (hx : lv E x = some (.int k m)) (hy : lv E y = some (.int k n)) (h0 : n ≠ 0) : Run P E w (.binOp .quo t x y t') (.int k (k.wrap (m.tdiv n))) := run_bin hx hy eqg_int (by simp [binOp, Op.intDiv, h0])
theorem bRem (hx : lv E x = some (.int k m)) (hy : lv E y = some (.int k n)) (h0 : n ≠ 0) : Run P E w (.binOp .rem t x y t') (.int k (m.tmod n)) := run_bin hx hy eqg_int (by simp [binOp, Op.intDiv, h0])
theorem bLss (hx : lv E x = some (.int k m)) (hy : lv E y = some (.int k n)) : Run P E w (.binOp .lss t x y t') (.bool (decide (m < n))) := run_bin hx hy eqg_int (by simp [binOp, Op.intCmp])
theorem bLeq (hx : lv E x = some (.int k m)) (hy : lv E y = some (.int k n)) : Run P E w (.binOp .leq t x y t') (.bool (decide (m ≤ n))) := run_bin hx hy eqg_int (by simp [binOp, Op.intCmp])
theorem bGtr (hx : lv E x = some (.int k m)) (hy : lv E y = some (.int k n)) : Run P E w (.binOp .gtr t x y t') (.bool (decide (n < m))) := run_bin hx hy eqg_int (by simp [binOp, Op.intCmp])
theorem bGeq (hx : lv E x = some (.int k m)) (hy : lv E y = some (.int k n)) : Run P E w (.binOp .geq t x y t') (.bool (decide (n ≤ m))) := run_bin hx hy eqg_int (by simp [binOp, Op.intCmp])
theorem bEql (hx : lv E x = some (.int k m)) (hy : lv E y = some (.int k n)) : Run P E w (.binOp .eql t x y t') (.bool (decide (m = n))) := run_bin hx hy eqg_int (by simp [binOp, Op.intCmp, beqI])
theorem bNeq (hx : lv E x = some (.int k m)) (hy : lv E y = some (.int k n)) : Run P E w (.binOp .neq t x y t') (.bool (!decide (m = n))) := run_bin hx hy eqg_int (by simp [binOp, Op.intCmp, bne, beqI])
/-- '&', '|', '^', '&^' of whole numbers. -/
def bits (op : BinOp) (k : IntKind) (m n : Int) : Int :=
  let a := BitVec.ofInt k.bits m
  let b := BitVec.ofInt k.bits n
  k.wrap (match op with | .and => a &&& b | .or => a ||| b | .xor => a ^^^ b | _ => a &&& ~~~b : BitVec k.bits).toNat
theorem bAnd (hx : lv E x = some (.int k m)) (hy : lv E y = some (.int k n)) : Run P E w (.binOp .and t x y t') (.int k (bits .and k m n)) := run_bin hx hy eqg_int (by simp [binOp, Op.intBits, bits])
theorem bOr (hx : lv E x = some (.int k m)) (hy : lv E y = some (.int k n)) : Run P E w (.binOp .or t x y t') (.int k (bits .or k m n)) := run_bin hx hy eqg_int (by simp [binOp, Op.intBits, bits])
theorem bXor (hx : lv E x = some (.int k m)) (hy : lv E y = some (.int k n)) : Run P E w (.binOp .xor t x y t') (.int k (bits .xor k m n)) := run_bin hx hy eqg_int (by simp [binOp, Op.intBits, bits])
theorem bAndNot (hx : lv E x = some (.int k m)) (hy : lv E y = some (.int k n)) : Run P E w (.binOp .andNot t x y t') (.int k (bits .andNot k m n)) := run_bin hx hy eqg_int (by simp [binOp, Op.intBits, bits])
def shlI (k : IntKind) (m n : Int) : Int := k.wrap (m * 2 ^ (min n.toNat k.bits))
def shrI (k : IntKind) (m n : Int) : Int := m.fdiv (2 ^ (min n.toNat k.bits))
theorem bShl (hx : lv E x = some (.int k m)) (hy : lv E y = some (.int k' n)) (h0 : 0 ≤ n) : Run P E w (.binOp .shl t x y t') (.int k (shlI k m n)) := run_bin hx hy eqg_int (by
  have : ¬ n < 0 := by omega
  simp [binOp, Op.shift, this, shlI])
theorem bShr (hx : lv E x = some (.int k m)) (hy : lv E y = some (.int k' n)) (h0 : 0 ≤ n) : Run P E w (.binOp .shr t x y t') (.int k (shrI k m n)) := run_bin hx hy eqg_int (by
  have : ¬ n < 0 := by omega
  simp [binOp, Op.shift, this, shrI])
theorem bBEql {p q : Bool} (hx : lv E x = some (.bool p)) (hy : lv E y = some (.bool q)) (hu : P.underlying t = some .bool) : Run P E w (.binOp .eql t x y t') (.bool (p == q)) := run_bin hx hy eqg_bool (by simp only [binOp, eqI_at, Sem.run_bind, eqI_bool 9999 hu]; rfl)
theorem bBNeq {p q : Bool} (hx : lv E x = some (.bool p)) (hy : lv E y = some (.bool q)) (hu : P.underlying t = some .bool) : Run P E w (.binOp .neq t x y t') (.bool (!(p == q))) := run_bin hx hy eqg_bool (by simp only [binOp, eqI_at, Sem.run_bind, eqI_bool 9999 hu]; rfl)
theorem bPEql0 {p : Option Addr} {e : TypeId} (hx : lv E x = some (.pointer p)) (hy : lv E y = some (.pointer none)) (hu : P.underlying t = some (.pointer e)) : Run P E w (.binOp .eql t x y t') (.bool p.isNone) := run_bin hx hy eqg_ptr (by simp only [binOp, eqI_at, Sem.run_bind, eqI_ptr0 9999 hu]; cases p <;> rfl)
theorem bPNeq0 {p : Option Addr} {e : TypeId} (hx : lv E x = some (.pointer p)) (hy : lv E y = some (.pointer none)) (hu : P.underlying t = some (.pointer e)) : Run P E w (.binOp .neq t x y t') (.bool p.isSome) := run_bin hx hy eqg_ptr (by simp only [binOp, eqI_at, Sem.run_bind, eqI_ptr0 9999 hu]; cases p <;> rfl)
theorem bSEql {p q : ByteArray} (hx : lv E x = some (.string p)) (hy : lv E y = some (.string q)) : Run P E w (.binOp .eql t x y t') (.bool (p.toList == q.toList)) := run_bin hx hy eqg_str (by simp [binOp, Op.stringOp])
theorem bSNeq {p q : ByteArray} (hx : lv E x = some (.string p)) (hy : lv E y = some (.string q)) : Run P E w (.binOp .neq t x y t') (.bool (!(p.toList == q.toList))) := run_bin hx hy eqg_str (by simp [binOp, Op.stringOp])
theorem uNot {p : Bool} (hx : lv E x = some (.bool p)) : Run P E w (.unOp .not t x) (.bool (!p)) := fun n a _ _ _ _ _ hE => by simp [execOp, hE.ev hx, Op.unary]
theorem uNeg (hx : lv E x = some (.int k m)) : Run P E w (.unOp .neg t x) (.int k (k.wrap (0 - m))) := fun n a _ _ _ _ _ hE => by simp [execOp, hE.ev hx, Op.unary, Op.intArith]
theorem uXor (hx : lv E x = some (.int k m)) : Run P E w (.unOp .xor t x) (.int k (bits .xor k (if k.signed then -1 else k.max) m)) := fun n a _ _ _ _ _ hE => by simp [execOp, hE.ev hx, Op.unary, Op.intBits, bits]
theorem cvI {s d : TypeId} {ds : TypeDesc} (hx : lv E x = some (.int k m)) (hs : P.underlying s = some ds) (hd : P.underlying d = some (.int k')) : Run P E w (.convert s d x) (.int k' (k'.wrap m)) := fun n a _ _ _ _ _ hE => by
  simp [execOp, hE.ev hx, convert, run_underlying hs, run_underlying hd, Conv.intToInt]
theorem cvS {s d : TypeId} {ds : TypeDesc} {p : ByteArray} (hx : lv E x = some (.string p)) (hs : P.underlying s = some ds) (hd : P.underlying d = some .string) (hns : ds = .string) : Run P E w (.convert s d x) (.string p) := fun n a _ _ _ _ _ hE => by
  subst hns
  simp [execOp, hE.ev hx, convert, run_underlying hs, run_underlying hd]
theorem ex {l : List Value} {i : Nat} (hx : lv E x = some (.tuple l.toArray)) (hi : l[i]? = some v) : Run P E w (.extract x i) v := fun n a _ _ _ _ _ hE => by simp [execOp, hE.ev hx, Instr.extract, hi]
theorem mif {d : TypeDesc} (hx : lv E x = some v) (hu : P.underlying t = some d) (hd : (match d with | .interface _ => true | _ => false) = false) : Run P E w (.makeInterface t x) (.iface t v) := fun n a _ _ _ _ _ hE => by
  cases d <;> first | (simp at hd; done) | simp [execOp, hE.ev hx, Instr.makeInterface, run_underlying hu]
theorem mfn {fn : Fn} {fs cs : Array Operand} {f' c' : List Value} (h1 : lvs E fs.toList = some f') (h2 : lvs E cs.toList = some c') : Run P E w (.makeFunc fn fs cs) (.func fn f'.toArray c'.toArray) := fun n a _ _ _ _ _ hE => by
  have e1 := hE.evs _ _ h1
  have e2 := hE.evs _ _ h2
  have f1 : fs.map a.eval = f'.toArray := by rw [← e1, ← Array.toList_map]
  have f2 : cs.map a.eval = c'.toArray := by rw [← e2, ← Array.toList_map]
  simp [execOp, Instr.makeFunc, f1, f2]
/-- A field's address. -/
theorem fa {fs : Array Field} {i : Nat} {f : Field} {g o sz k : Nat} (hx : lv E x = some (.pointer (some ⟨g, o, none⟩))) (hu : P.underlying t = some (.struct fs)) (hf : fs[i]? = some f) (hk : f.offset = k) (hs : (P.info? f.type).map (·.size) = some (sz + 1)) : Run P E w (.fieldAddr t x i) (.pointer (some ⟨g, o + k, none⟩)) := fun n a _ _ _ _ _ hE => by
  subst hk
  obtain ⟨j, hj, hjs⟩ := Option.map_eq_some_iff.1 hs
  have hadd : (⟨g, o, none⟩ : Addr).add f.offset = ⟨g, o + f.offset, none⟩ := by unfold Addr.add; split <;> simp_all
  simp [execOp, hE.ev hx, Instr.fieldAt, run_underlying hu, hf, Instr.sureAddr, fieldPlace, sizeOf, typeInfo, hj, hjs, hadd]
theorem fld1 {fs : Array Field} {i : Nat} {f : Field} {cs : List Value} {d : TypeDesc} (hx : lv E x = some (.agg cs.toArray)) (hu : P.underlying t = some (.struct fs)) (hf : fs[i]? = some f) (hd : P.underlying f.type = some d) (hb : aggB d = false) (hv : cs[f.offset]? = some v) : Run P E w (.field t x i) v := fun n a _ _ _ _ _ hE => by
  have ha : (isAgg f.type).run P w = .ok false w := by
    unfold isAgg
    rw [Sem.run_bind, run_underlying hd w]
    cases d <;> first | rfl | (simp [aggB] at hb; done)
  simp [execOp, hE.ev hx, Instr.field, run_underlying hu, hf, asAgg, part, ha, hv]
theorem fldA {fs : Array Field} {i : Nat} {f : Field} {cs : List Value} {d : TypeDesc} {zv : Value} {sz by_ : Nat} (hx : lv E x = some (.agg cs.toArray)) (hu : P.underlying t = some (.struct fs)) (hf : fs[i]? = some f) (T : TI P f.type d zv sz by_) (hb : aggB d = true) {cs' : List Value} (hv : (cs.drop f.offset).take sz = cs') : Run P E w (.field t x i) (.agg cs'.toArray) := fun n a _ _ _ _ _ hE => by
  have ha := T.agg w
  have hsz := T.size w
  rw [hb] at ha
  have e : (cs.toArray).extract f.offset (f.offset + sz) = cs'.toArray := by
    rw [← hv]
    apply Array.ext'
    simp
  simp [execOp, hE.ev hx, Instr.field, run_underlying hu, hf, asAgg, part, ha, hsz]
  exact hv
/-- An element's address. -/
theorem ia {e : TypeId} {d : TypeDesc} {zv : Value} {sz by_ g o len cap : Nat} {i : Int} (hx : lv E x = some (.slice (some ⟨g, o, none⟩) len cap)) (hy : lv E y = some (.int k i)) (hu : P.underlying t = some (.slice e)) (T : TI P e d zv sz by_) (h0 : 0 ≤ i) (h1 : i < len) : Run P E w (.indexAddr t x y) (.pointer (some ⟨g, o + i.toNat * sz, none⟩)) := fun n a _ _ _ _ _ hE => by
  have hadd : (⟨g, o, none⟩ : Addr).add (i.toNat * sz) = ⟨g, o + i.toNat * sz, none⟩ := by unfold Addr.add; split <;> simp_all
  simp [execOp, hE.ev hx, hE.ev hy, Instr.indexAt, asIntOf, run_underlying hu, h0, h1, T.size w, hadd]
theorem lnS {e : TypeId} {A : Option Addr} {len cap : Nat} (hx : lv E x = some (.slice A len cap)) (hu : P.underlying t = some (.slice e)) : Run P E w (.call { callee := .builtin .len, args := #[x], argTypes := #[t] }) (.int .i64 len) := fun n a _ _ _ _ _ hE => by
  simp [execOp, resolve, invoke, builtin, Builtin.len_, hE.ev hx, run_underlying hu, goInt]
theorem lnStr {p : ByteArray} (hx : lv E x = some (.string p)) (hu : P.underlying t = some .string) : Run P E w (.call { callee := .builtin .len, args := #[x], argTypes := #[t] }) (.int .i64 p.size) := fun n a _ _ _ _ _ hE => by
  simp [execOp, resolve, invoke, builtin, Builtin.len_, hE.ev hx, run_underlying hu, goInt]
theorem cpS {e : TypeId} {A : Option Addr} {len cap : Nat} (hx : lv E x = some (.slice A len cap)) (hu : P.underlying t = some (.slice e)) : Run P E w (.call { callee := .builtin .cap, args := #[x], argTypes := #[t] }) (.int .i64 cap) := fun n a _ _ _ _ _ hE => by
  simp [execOp, resolve, invoke, builtin, Builtin.cap_, hE.ev hx, run_underlying hu, goInt]
theorem mn2 {ts : Array TypeId} (hx : lv E x = some (.int k m)) (hy : lv E y = some (.int k n)) : Run P E w (.call { callee := .builtin .min, args := #[x, y], argTypes := ts }) (.int k (if n < m then n else m)) := fun n a _ _ _ _ _ hE => by
  simp [execOp, resolve, invoke, builtin, Builtin.min_, Builtin.min2, hE.ev hx, hE.ev hy]
theorem mx2 {ts : Array TypeId} (hx : lv E x = some (.int k m)) (hy : lv E y = some (.int k n)) : Run P E w (.call { callee := .builtin .max, args := #[x, y], argTypes := ts }) (.int k (if n > m then n else m)) := fun n a _ _ _ _ _ hE => by
  simp [execOp, resolve, invoke, builtin, Builtin.max_, Builtin.max2, hE.ev hx, hE.ev hy]
/-- A byte of a string. -/
def bt (s : ByteArray) (i : Int) : Int := ((s.data.toList.getD i.toNat 0).toNat : Int)
theorem ixS {p : ByteArray} {i : Int} (hx : lv E x = some (.string p)) (hy : lv E y = some (.int k i)) (hu : P.underlying t = some .string) (h0 : 0 ≤ i) (h1 : i < p.size) : Run P E w (.index t x y) (.int .u8 (bt p i)) := fun n a _ _ _ _ _ hE => by
  have hlt : i.toNat < p.size := by omega
  have e : p[i.toNat]? = some (p[i.toNat]'hlt) := by
    simp [getElem?_pos, hlt]
  have e2 : ((p[i.toNat]'hlt).toNat : Int) = bt p i := by
    have hl : i.toNat < p.data.toList.length := by simpa using hlt
    have hx : p.data.toList.getD i.toNat 0 = p[i.toNat]'hlt := by
      rw [List.getD_eq_getElem?_getD, List.getElem?_eq_getElem hl, Option.getD_some]
      rfl
    rw [bt, hx]
  simp [execOp, hE.ev hx, hE.ev hy, Instr.index, asIntOf, run_underlying hu, h0, e, e2]
/-- A load of one cell; of a whole struct. -/
theorem ld {d : TypeDesc} {g o : Nat} (hx : lv E x = some (.pointer (some ⟨g, o, none⟩))) (hu : P.underlying t = some d) (hb : aggB d = false) (hc : w.cell? ⟨g, o, none⟩ = some v) : Run P E w (.load t x) v := fun n a _ _ _ _ _ hE => by
  have ha : (isAgg t).run P w = .ok false w := by
    unfold isAgg
    rw [Sem.run_bind, run_underlying hu w]
    cases d <;> first | rfl | (simp [aggB] at hb; done)
  simp [execOp, hE.ev hx, Instr.loadAt, Instr.sureAddr, loadVar, ha, hc]
theorem ldA {d : TypeDesc} {zv : Value} {sz by_ g o : Nat} (hx : lv E x = some (.pointer (some ⟨g, o, none⟩))) (T : TI P t d zv sz by_) (hb : aggB d = true) {cs : List Value} (hl : cs.length = sz) (hc : ∀ j v, cs[j]? = some v → w.cell? ⟨g, o + j, none⟩ = some v) : Run P E w (.load t x) (.agg cs.toArray) := fun n a _ _ _ _ _ hE => by
  have ha := T.agg w
  have hsz := T.size w
  rw [hb] at ha
  have hld : (loadCells ⟨g, o, none⟩ cs.length).run P w = .ok cs.toArray w := run_loadCells_list (P := P) w ⟨g, o, none⟩ cs (fun j v hj => by
    have hadd : (⟨g, o, none⟩ : Addr).add j = ⟨g, o + j, none⟩ := by unfold Addr.add; split <;> simp_all
    rw [hadd]; exact hc j v hj)
  rw [hl] at hld
  simp [execOp, hE.ev hx, Instr.loadAt, Instr.sureAddr, loadVar, ha, hsz, hld]
end
end Go.Proofs.Ytbjnbjgiidcfjaa.Sp
