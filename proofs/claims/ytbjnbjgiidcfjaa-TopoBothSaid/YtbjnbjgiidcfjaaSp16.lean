/- The walk's own rules, part 16: texts (sums, cuts, bytes to text); errors held against nil; what a kit's contract says of the world, as blocks; the program's own variables. -/
import Derived.Test.YtbjnbjgiidcfjaaSp15
import Derived.Laws.BytesArg
import Derived.Below
set_option linter.unusedVariables false
set_option linter.unusedSimpArgs false
namespace Go.Proofs.Ytbjnbjgiidcfjaa.Sp
open Go Go.RowKit
section
variable {P : Program} {E : List (Nat × Value)} {z w w' : World} {v u : Value} {x y : Operand} {t t' e : TypeId} {L X G G' : Hp} {A : Option Addr} {c : Nat} {xs : List Int} {p q s : ByteArray} {q1 q2 : Option Operand} {lo hi : Int}
theorem bSAdd (hx : lv E x = some (.string p)) (hy : lv E y = some (.string q)) (h : (p.size : Int) + q.size ≤ 9223372036854775807) : Run P E w (.binOp .add t x y t') (.string (p ++ q)) := run_bin hx hy eqg_str (by
  have e1 : IntKind.i64.max = 9223372036854775807 := by decide
  have : ¬ (((p.size + q.size : Nat) : Int) > IntKind.i64.max) := by rw [e1]; omega
  simp only [binOp, Op.stringOp, if_neg this]; rfl)
/-- A text that is cut. -/
def cutS (s : ByteArray) (lo hi : Int) : ByteArray := s.extract lo.toNat hi.toNat
theorem slcS (hx : lv E x = some (.string s)) (hu : P.underlying t = some .string) (hlo : lvo E q1 0 = some lo) (hhi : lvo E q2 s.size = some hi) (h0 : 0 ≤ lo) (h1 : lo ≤ hi) (h2 : hi ≤ s.size) :
    Run P E w (.slice t x q1 q2 none) (.string (cutS s lo hi)) := fun n a _ _ _ _ _ hE => by
  have hbb : (Instr.sliceBounds false s.size s.size (q1.map a.eval) (q2.map a.eval) none).run P w = .ok (lo.toNat, hi.toNat, s.size) w := by
    rcases lvo_some hlo with ⟨rfl, rfl⟩ | ⟨x1, k1, rfl, e1⟩ <;> rcases lvo_some hhi with ⟨rfl, rfl⟩ | ⟨x2, k2, rfl, e2⟩
    · simp [Instr.sliceBounds]
    · simp [Instr.sliceBounds, hE.ev e2, bound_run (P := P) (w := w) (k := k2) (Int.le_trans h0 h1) h2]
    · simp [Instr.sliceBounds, hE.ev e1, bound_run (P := P) (w := w) (k := k1) h0 (show lo ≤ (s.size : Int) by omega)]
    · simp [Instr.sliceBounds, hE.ev e1, hE.ev e2, bound_run (P := P) (w := w) (k := k2) (Int.le_trans h0 h1) h2, bound_run (P := P) (w := w) (k := k1) h0 (show lo ≤ (hi.toNat : Int) by omega)]
  have hrun : (Instr.sliceAt t (.string s) (q1.map a.eval) (q2.map a.eval) none).run P w = .ok (.string (cutS s lo hi)) w := by
    simp only [Instr.sliceAt, Instr.slice, Sem.run_bind, run_underlying hu, Result.andThen_ok, hbb, Sem.run_pure, cutS]
    simp [hbb]
  simp [execOp, hE.ev hx, hrun]
/-- Bytes as a text. -/
def strI (xs : List Int) : ByteArray := ⟨(xs.map fun n => UInt8.ofNat n.toNat).toArray⟩
theorem cvBS {sT dT : TypeId} (hr : RdS (kInt .u8) X A c xs) (hx : lv E x = some (.slice A xs.length c)) (HF : Fits z w L) (hs : X ⊆ L) (hu : P.underlying sT = some (.slice e)) (he : P.underlying e = some (.int .u8)) (hd : P.underlying dT = some .string) : Run P E w (.convert sT dT x) (.string (strI xs)) := fun n a _ _ _ _ _ hE => by
  have hrun : (convert sT dT (.slice A xs.length c)).run P w = .ok (.string (strI xs)) w := by
    rcases hr.2 with rfl | ⟨g, o, rfl, hh⟩
    · cases A with
      | none =>
        simp [convert, run_underlying hu, run_underlying he, run_underlying hd, Conv.bytesToString, strI, ByteArray.empty, ByteArray.emptyWithCapacity]
        rfl
      | some ad =>
        rw [List.length_nil, run_convert_bytes_string w sT dT e _ _ c hu he hd, run_bytesToString w ad 0 c [] (by have := run_loadCells_list (P := P) w ad [] (by simp); simpa using this)]
        rfl
    · have := run_convert_bytes_arg (P := P) w sT e hu he g o xs.length c xs rfl (fun i hi => by
        obtain ⟨cs, k1, k2⟩ := hh i xs[i] (by simp [hi])
        have k1' : cs = [.int .u8 xs[i]] := k1
        subst k1'
        have h3 := k2 0 _ rfl
        have e1 : (kInt .u8).sz = 1 := rfl
        rw [e1, Nat.mul_one, Nat.add_zero] at h3
        have := HF.cells hs h3
        rw [this]
        simp [List.getD_eq_getElem?_getD, hi]) dT hd
      rw [this]; rfl
  simp [execOp, hE.ev hx, hrun]
/-- An error, or none. -/
def IsErr (b : Bool) (v : Value) : Prop := (b = true ∧ ∃ t p, v = .iface t p) ∨ (b = false ∧ v = .nilIface)
theorem isErr_nil : IsErr false .nilIface := .inr ⟨rfl, rfl⟩
theorem eqI_if0 (d : Nat) {b : Bool} {ms : Array (String × TypeId)} (hu : P.underlying t = some (.interface ms)) (h : IsErr b v) : (Op.equalIn (d + 1) t v .nilIface).run P w = .ok (!b) w := by
  rcases h with ⟨rfl, q, p, rfl⟩ | ⟨rfl, rfl⟩ <;> simp [Op.equalIn, run_underlying hu]
theorem eqg_if {op : BinOp} {b : Bool} (h : IsErr b v) : (eqGuard op t x (.const .nilIface) v .nilIface).run P w = .ok () w := by
  rcases h with ⟨rfl, q, p, rfl⟩ | ⟨rfl, rfl⟩ <;> (unfold eqGuard; split <;> first | rfl | simp)
theorem bENeq {b : Bool} {ms : Array (String × TypeId)} (hx : lv E x = some v) (h : IsErr b v) (hu : P.underlying t = some (.interface ms)) : Run P E w (.binOp .neq t x (.const .nilIface) t') (.bool b) := run_bin hx rfl (eqg_if h) (by
  have e1 : (Op.equal t v .nilIface).run P w = .ok (!b) w := eqI_if0 9999 hu h
  rcases h with ⟨rfl, q, p, rfl⟩ | ⟨rfl, rfl⟩ <;> simp [binOp, e1])
theorem bEEql {b : Bool} {ms : Array (String × TypeId)} (hx : lv E x = some v) (h : IsErr b v) (hu : P.underlying t = some (.interface ms)) : Run P E w (.binOp .eql t x (.const .nilIface) t') (.bool (!b)) := run_bin hx rfl (eqg_if h) (by
  have e1 : (Op.equal t v .nilIface).run P w = .ok (!b) w := eqI_if0 9999 hu h
  rcases h with ⟨rfl, q, p, rfl⟩ | ⟨rfl, rfl⟩ <;> simp [binOp, e1])
/-! ### What a kit's contract says of the world -/
theorem Fits.below (h : Fits z w L) (hb : Below w.heap.size w w') (hd : w.drawn ≤ w'.drawn) : Fits z w' L :=
  ⟨⟨hb.os.trans h.os.1, Nat.le_trans h.os.2 hd⟩, hb.tape.trans h.tape, hb.output.trans h.output, h.nodup, fun p hp => by rw [hb.block p.1 (h.lt hp)]; exact h.here p hp⟩
end
end Go.Proofs.Ytbjnbjgiidcfjaa.Sp
