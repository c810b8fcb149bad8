/- The contracts of strings.Split, strings.Join, strconv.Itoa, strconv.Atoi in the walk's own words (blocks), out of the kit's; the program's own variables that they read. -/
import Derived.Test.YtdnlahdddidffaaDoorSp16
import Derived.Test.YtdnlahdddidffaaDoorShelf
import Derived.Lib.SplitLaws
set_option linter.unusedVariables false
set_option linter.unusedSimpArgs false
namespace Go.Proofs.YtdnlahdddidffaaDoor
open Go Go.RowKit Go.Proofs.YtdnlahdddidffaaDoor.Sp
/-- The variables lie in G: ErrSyntax, ErrRange, MaxLen, uint64pow10. -/
def GV (G : Hp) : Prop :=
  (∃ T fr te pe, (0, Obj.cells #[.iface te pe] T fr) ∈ G) ∧ (∃ T fr te pe, (1, Obj.cells #[.iface te pe] T fr) ∈ G) ∧ (∃ c T fr m, (2, Obj.cells c T fr) ∈ G ∧ c[0]? = some (.int .i64 m)) ∧
  ∃ T fr, (3, Obj.cells (Lib.pow10Tab.map fun x => Value.int .u64 x).toArray T fr) ∈ G
theorem GV.mono {G G' : Hp} (h : GV G) (hs : G ⊆ G') : GV G' := by
  obtain ⟨⟨a1, a2, a3, a4, a⟩, ⟨b1, b2, b3, b4, b⟩, ⟨c1, c2, c3, c4, c, c'⟩, d1, d2, d⟩ := h
  exact ⟨⟨a1, a2, a3, a4, hs a⟩, ⟨b1, b2, b3, b4, hs b⟩, ⟨c1, c2, c3, c4, hs c, c'⟩, d1, d2, hs d⟩
theorem gSyntax : Tryd.prog.globalNamed "strconv.ErrSyntax" = some 0 := by kernel_rfl
theorem gRange : Tryd.prog.globalNamed "strconv.ErrRange" = some 1 := by kernel_rfl
theorem gPow : Tryd.prog.globalNamed "internal/strconv.uint64pow10" = some 3 := by kernel_rfl
section
variable {z w : World} {F G : Hp}
theorem var_of {n : String} {g : Nat} {c : Array Value} {T : TypeId} {fr : Nat × Nat} (hn : Tryd.prog.globalNamed n = some g) (HF : Fits z w F) (hG : G ⊆ F) (h : (g, Obj.cells c T fr) ∈ G) : w.var? Tryd.prog n = some c := by
  have := HF.here _ (hG h)
  simp only at this
  simp [World.var?, hn, this]
def f_strings_Split (s sep : ByteArray) : Option (List ByteArray) := if s.size < 4294967281 ∧ 1 ≤ sep.size then some (Lib.splitB sep 0 (Lib.countB s sep) s) else none
theorem f_strings_Split.ok (hG : G ⊆ F) (hV : GV G) {a0 a1 : ByteArray} {r : List ByteArray} (H : f_strings_Split a0 a1 = some r) (HF : Fits z w F) :
    Calls Tryd.prog 18 [.string a0, .string a1].toArray w fun e w' => ∃ (A0 : Option Addr) (c0 : Nat) (L0 : Hp), e = .returned (.slice A0 r.length c0) ∧ Fits z w' (L0 ++ F) ∧ OwnS kStr L0 A0 c0 r := by
  obtain ⟨_, _, ⟨c, T, fr, m, hc, hm⟩, _⟩ := hV
  unfold f_strings_Split at H
  split at H
  · rename_i hh
    obtain rfl := Option.some.inj H
    have hcell : w.cell? ⟨2, 0, none⟩ = some (.int .i64 m) := HF.cell ⟨rfl, c, T, fr, hG hc, by simpa using hm⟩
    refine (Tryd.strings_Split a0 a1 m w hh.1 hcell hh.2).mono ?_
    rintro e w' ⟨rfl, rfl⟩
    have hl := Lib.splitB_all a1 hh.2 0 _ a0 rfl
    have hle := Lib.countB_le a1 hh.2 _ a0 (Nat.le_refl _)
    refine ⟨some ⟨w.heap.size, 0, none⟩, Lib.countB a0 a1 + 1, [bk w.heap.size 9 ((Lib.splitB a1 0 (Lib.countB a0 a1) a0).map Value.string)], by rw [hl], HF.alloc _, ?_⟩
    have he : ∀ xs : List ByteArray, OwnE kStr [] (xs.map Value.string) xs := by
      intro xs
      induction xs with
      | nil => exact ⟨rfl, rfl⟩
      | cons x xs ih => exact ⟨[], [], [.string x], _, rfl, rfl, ⟨rfl, rfl⟩, ih⟩
    have := OwnS.lit (g := w.heap.size) (T := 9) (he (Lib.splitB a1 0 (Lib.countB a0 a1) a0)) (by rw [hl]; have := hh.1; unfold maxLen; omega)
    rwa [hl] at this
  · cases H
def f_strings_Join (l : List ByteArray) (sep : ByteArray) : Option ByteArray := if (Lib.join (l.map (·.data.toList)) sep.data.toList).length ≤ 140737488355328 ∧ l.length ≤ 140737488355328 then some ⟨(Lib.join (l.map (·.data.toList)) sep.data.toList).toArray⟩ else none
theorem f_strings_Join.ok (hG : G ⊆ F) (hV : GV G) {a0 : List ByteArray} {A_a0 : Option Addr} {c_a0 : Nat} {X_a0 : Hp} {a1 r : ByteArray} (H : f_strings_Join a0 a1 = some r) (HF : Fits z w F) (hX_a0 : X_a0 ⊆ F) (hr_a0 : RdS kStr X_a0 A_a0 c_a0 a0) :
    Calls Tryd.prog 22 [.slice A_a0 a0.length c_a0, .string a1].toArray w fun e w' => e = .returned (.string r) ∧ Fits z w' F := by
  unfold f_strings_Join at H
  split at H
  · rename_i hh
    obtain rfl := Option.some.inj H
    rcases hr_a0.2 with rfl | ⟨g, o, rfl, hc⟩
    · refine (Tryd.strings_Join_none A_a0 c_a0 a1 w).mono ?_
      rintro e w' ⟨rfl, rfl⟩
      exact ⟨by rfl, HF⟩
    · cases a0 with
      | nil =>
        refine (Tryd.strings_Join_none _ c_a0 a1 w).mono ?_
        rintro e w' ⟨rfl, rfl⟩
        exact ⟨by rfl, HF⟩
      | cons x xs =>
        have hcell : ∀ (j : Nat) y, (x :: xs)[j]? = some y → CellIn F ⟨g, o + j, none⟩ (.string y) := by
          intro j y hy
          obtain ⟨cs, k1, k2⟩ := hc j y hy
          have k1' : cs = [.string y] := k1
          subst k1'
          have := k2 0 _ rfl
          have e1 : kStr.sz = 1 := rfl
          rw [e1, Nat.mul_one, Nat.add_zero] at this
          exact this.mono hX_a0
        have hb : g < w.heap.size := by
          obtain ⟨_, c, T, fr, h1, _⟩ := hcell 0 x rfl
          exact HF.lt h1
        refine (Tryd.strings_Join g o c_a0 (x :: xs) a1 w (fun j y hy => HF.cell (hcell j y hy)) hb hh.2 hr_a0.1 hh.1).mono ?_
        rintro e w' ⟨rfl, hw⟩
        exact ⟨rfl, HF.below hw⟩
  · cases H
def f_strconv_Itoa (n : Int) : Option ByteArray := if -9223372036854775808 ≤ n ∧ n ≤ 9223372036854775807 then some ⟨(Lib.itoa n).toArray⟩ else none
theorem f_strconv_Itoa.ok (hG : G ⊆ F) (hV : GV G) {a0 : Int} {r : ByteArray} (H : f_strconv_Itoa a0 = some r) (HF : Fits z w F) :
    Calls Tryd.prog 21 [.int .i64 a0].toArray w fun e w' => e = .returned (.string r) ∧ Fits z w' F := by
  obtain ⟨_, _, _, T, fr, hp⟩ := hV
  unfold f_strconv_Itoa at H
  split at H
  · rename_i hh
    obtain rfl := Option.some.inj H
    refine (Tryd.strconv_Itoa a0 hh.1 hh.2 w (var_of gPow HF hG hp)).mono ?_
    rintro e w' ⟨rfl, k, os, rfl⟩
    exact ⟨rfl, HF.below ⟨rfl, rfl, rfl, by show w.heap.size ≤ (w.heap ++ os).size; rw [Array.size_append]; omega, fun j hj => by show (w.heap ++ os)[j]? = _; rw [Array.getElem?_append, if_pos hj]⟩⟩
  · cases H
def f_strconv_Atoi (s : ByteArray) : Option (Int × Bool) := if s.size ≤ 281474976710656 then (match Lib.atoiAll s.data.toList with | .ok v => some (v, false) | .range => some (Lib.atoiSat s.data.toList, true) | _ => some (0, true)) else none
theorem f_strconv_Atoi.ok (hG : G ⊆ F) (hV : GV G) {a0 : ByteArray} {r : Int × Bool} (H : f_strconv_Atoi a0 = some r) (HF : Fits z w F) :
    Calls Tryd.prog 19 [.string a0].toArray w fun e w' => ∃ ev, e = .returned (.tuple #[.int .i64 r.1, ev]) ∧ Fits z w' F ∧ IsErr r.2 ev := by
  obtain ⟨⟨T1, fr1, te1, pe1, h1⟩, ⟨T2, fr2, te2, pe2, h2⟩, _⟩ := hV
  unfold f_strconv_Atoi at H
  split at H
  · rename_i hh
    cases ha : Lib.atoiAll a0.data.toList with
    | ok v =>
      rw [ha] at H
      obtain rfl := Option.some.inj H
      refine (Tryd.strconv_Atoi_ok a0 (by omega) v ha w).mono ?_
      rintro e w' ⟨rfl, hw⟩
      refine ⟨_, rfl, ?_, isErr_nil⟩
      rcases hw with rfl | ⟨t, rfl⟩
      · exact HF
      · exact HF.below (Lib.bytesWorld_below _ _ _)
    | range =>
      rw [ha] at H
      obtain rfl := Option.some.inj H
      refine (Tryd.strconv_Atoi_range_var a0 hh ha te2 pe2 w (var_of gRange HF hG h2)).mono ?_
      rintro e w' ⟨N, rfl, _, _, hw⟩
      exact ⟨_, rfl, HF.below hw, .inl ⟨rfl, _, _, rfl⟩⟩
    | _ =>
      rw [ha] at H
      obtain rfl := Option.some.inj H
      refine Calls.mono (Any.strconv_Atoi_syntax_var Tryd.laysC172 a0 hh ha te1 pe1 w (var_of gSyntax HF hG h1)) ?_
      rintro e w' ⟨N, rfl, _, _, hw⟩
      exact ⟨_, rfl, HF.below hw, .inl ⟨rfl, _, _, rfl⟩⟩
  · cases H
end
end Go.Proofs.YtdnlahdddidffaaDoor
