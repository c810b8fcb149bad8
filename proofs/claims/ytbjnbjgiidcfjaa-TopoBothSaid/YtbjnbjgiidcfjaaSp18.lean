/- The walk's own rules, part 18: a cut that looks into a slice of one's own; clear; cuts with a room of their own. -/
import Derived.Test.YtbjnbjgiidcfjaaSp17
set_option linter.unusedVariables false
set_option linter.unusedSimpArgs false
namespace Go.Proofs.Ytbjnbjgiidcfjaa.Sp
open Go
section
variable {P : Program} {E : List (Nat × Value)} {z w : World} {v : Value} {x y y2 : Operand} {t e : TypeId} {L R X : Hp} {α : Type} {K : Kd α} {A B : Option Addr} {c : Nat} {xs : List α} {lo hi : Int} {d : α} {q1 : Option Operand} {k k2 : IntKind}
theorem iaV {dd : TypeDesc} {zv : Value} {sz by_ g o len cap : Nat} {i : Int} (hB : B = some ⟨g, o, none⟩) (hx : lv E x = some (.slice B len cap)) (hy : lv E y = some (.int k i)) (hu : P.underlying t = some (.slice e)) (T : TI P e dd zv sz by_) (h0 : 0 ≤ i) (h1 : i < len) : Run P E w (.indexAddr t x y) (.pointer (some ⟨g, o + i.toNat * sz, none⟩)) := ia (hB ▸ hx) hy hu T h0 h1
/-- From a place on: noughts. -/
def clrL (xs : List α) (lo : Int) (d : α) : List α := xs.take lo.toNat ++ List.replicate (xs.length - lo.toNat) d
theorem len_clrL (h : lo ≤ xs.length) : (clrL xs lo d).length = xs.length := by simp [clrL]; omega
theorem zero_list (zc : List Value) (m : Nat) : (Builtin.zeroCells zc.toArray m).toList = (List.range (m * zc.length)).map (fun i => zc.getD (i % zc.length) undef) := cells_lit zc m zc.length rfl
theorem oClear {ds : TypeDesc} {zv : Value} {by_ : Nat} (hK : Shr K) (d : α) (HF : Fits z w (L ++ R)) (ho : OwnS K L A c xs) (hx : lv E x = some (.slice (cutA A (c - lo.toNat) (lo.toNat * K.sz)) (cutL xs lo xs.length).length (c - lo.toNat))) (hu : P.underlying t = some (.slice e)) (TT : TI P e ds zv K.sz by_) (hd : K.own [] (cellsL zv) d) (h0 : 0 ≤ lo) (h1 : lo ≤ xs.length) :
    ∃ u w', RunW P E w (.call { callee := .builtin .clear, args := #[x], argTypes := #[t] }) u w' ∧ ∃ L', u = .tuple #[] ∧ Fits z w' (L' ++ R) ∧ OwnS K L' A c (clrL xs lo d) := by
  have hlen := len_cutL h0 h1 (Int.le_refl (xs.length : Int))
  rw [Int.toNat_natCast] at hlen
  by_cases hz : xs.length - lo.toNat = 0
  · have e0 : clrL xs lo d = xs := by
      rw [clrL, hz, List.take_of_length_le (by omega)]; simp
    rw [e0]
    have hn : (cutL xs lo xs.length).length = 0 := by rw [hlen]; exact hz
    rw [hn] at hx
    refine ⟨.tuple #[], w, fun n a _ ty _ _ _ hE => ?_, L, rfl, HF, ho⟩
    have hr : (Builtin.clear_ #[t] ty #[.slice (cutA A (c - lo.toNat) (lo.toNat * K.sz)) 0 (c - lo.toNat)]).run P w = .ok (.tuple #[]) w := by
      unfold Builtin.clear_
      cases cutA A (c - lo.toNat) (lo.toNat * K.sz) <;> simp [run_underlying hu]
    simp [execOp, resolve, invoke, builtin, hE.ev hx, hr]
  · rcases ho with ⟨rfl, rfl, rfl, rfl⟩ | ⟨g, o, arr, T, Lr, rfl, rfl, hle, hm, hs, he⟩
    · simp at hz
    · obtain rfl := hK.nil he
      obtain ⟨M1, M2, c1, c2, hM, hc, k1, k2⟩ := he.split lo.toNat
      have hM1 := hK.nil k1
      have hM2 := hK.nil k2
      subst hM1; subst hM2
      have l1 := k1.len
      have l2 := k2.len
      rw [List.length_take, Nat.min_eq_left (by omega)] at l1
      rw [List.length_drop] at l2
      have hcap : ¬ c - lo.toNat = 0 := by omega
      have hA : cutA (some (⟨g, o, none⟩ : Addr)) (c - lo.toNat) (lo.toNat * K.sz) = some ⟨g, o + lo.toNat * K.sz, none⟩ := by rw [cutA, if_neg hcap]; simp [add_mk]
      have hrep := cells_rep (K := K) (cellsL zv) (xs.length - lo.toNat) (cellsL zv).length rfl d hd (by have := K.len (K.toRd hd); omega)
      have hsz : (cellsL zv).length = K.sz := K.len (K.toRd hd)
      have zl := zero_list (cellsL zv) (xs.length - lo.toNat)
      have hzs : ((List.range ((xs.length - lo.toNat) * (cellsL zv).length)).map (fun i => (cellsL zv).getD (i % (cellsL zv).length) undef)).length = c2.length := by simp [l2, hsz]
      generalize hZ : (List.range ((xs.length - lo.toNat) * (cellsL zv).length)).map (fun i => (cellsL zv).getD (i % (cellsL zv).length) undef) = Z at hrep zl hzs
      have hub : o + lo.toNat * K.sz + Z.length ≤ arr.size := by
        have : (xs.length - lo.toNat) * K.sz + lo.toNat * K.sz ≤ c * K.sz := by rw [← Nat.add_mul]; exact Nat.mul_le_mul_right _ (by omega)
        rw [hzs, l2]; omega
      have hg := HF.here _ (List.mem_cons_self ..)
      have hst := run_storeCells_at P g (o + lo.toNat * K.sz) T Z 0 arr w hg hub hrep.oneCell
      simp only [Nat.add_zero] at hst
      refine ⟨.tuple #[], w.setRow g (putSeg arr.toList (o + lo.toNat * K.sz) Z).toArray, fun n a _ ty _ _ _ hE => ?_, (g, .cells (putSeg arr.toList (o + lo.toNat * K.sz) Z).toArray T (0, 0)) :: [], rfl, HF.setRow, ?_⟩
      · rw [hA, hlen] at hx
        obtain ⟨m, hmm⟩ : ∃ m, xs.length - lo.toNat = m + 1 := ⟨xs.length - lo.toNat - 1, by omega⟩
        have hr : (Builtin.clear_ #[t] ty #[.slice (some ⟨g, o + lo.toNat * K.sz, none⟩) (xs.length - lo.toNat) (c - lo.toNat)]).run P w = .ok (.tuple #[]) (w.setRow g (putSeg arr.toList (o + lo.toNat * K.sz) Z).toArray) := by
          rw [hmm] at zl ⊢
          unfold Builtin.clear_
          simp only [List.getElem?_toArray, List.getElem?_cons_zero, run_underlying hu, Sem.run_bind, Result.andThen_ok, TT.zero w, cells_eq, zl]
          rw [hst]; rfl
        simp [execOp, resolve, invoke, builtin, hE.ev hx, hr]
      · have hcl : c1.length + c2.length + ([] : List Value).length = xs.length * K.sz := by
          rw [l1, l2, List.length_nil, Nat.add_zero, ← Nat.add_mul]; congr 1; omega
        refine .inr ⟨g, o, _, T, [], rfl, rfl, by rw [len_clrL h1]; exact hle, hm, ?_, ?_⟩
        · have := putSeg_len (l := arr.toList) (o := o + lo.toNat * K.sz) (cs := Z) (by rw [Array.length_toList]; exact hub)
          simp only [List.size_toArray, this, Array.length_toList]; exact hs
        · rw [len_clrL h1, ← hcl, List.toList_toArray, putSeg_mid (c1 := c1) (ci := c2) (c2 := []) (off := 0) (by omega) (by omega) (by rw [Array.length_toList]; omega) (by rw [hcl, List.append_nil]; exact hc)]
          have e1 : putSeg c2 0 Z = Z := by
            unfold putSeg
            rw [List.take_zero, List.nil_append, Nat.zero_add, hzs, List.drop_length, List.append_nil]
          rw [e1, List.append_nil]
          exact OwnE.app (L1 := []) (L2 := []) k1 hrep
theorem oCutOM {ds : TypeDesc} {zv : Value} {by_ : Nat} (HF : Fits z w (L ++ R)) (ho : OwnS K L A c xs) (hx : lv E x = some (.slice A xs.length c)) (hu : P.underlying t = some (.slice e)) (TT : TI P e ds zv K.sz by_) (hlo : lvo E q1 0 = some lo) (hy : lv E y = some (.int k hi)) (hy2 : lv E y2 = some (.int k2 hi)) (h0 : 0 ≤ lo) (h1 : lo ≤ hi) (h2 : hi ≤ xs.length) :
    ∃ u w', RunW P E w (.slice t x q1 (some y) (some y2)) u w' ∧ ∃ L' A' c', u = .slice A' (cutL xs lo hi).length c' ∧ Fits z w' (L' ++ R) ∧ OwnS K L' A' c' (cutL xs lo hi) := by
  have hle := ho.le
  obtain ⟨L', h3, h4⟩ := ho.cut HF h0 h1 h2 (q := hi.toNat - lo.toNat) (Nat.le_refl _) (by omega)
  exact ⟨_, _, run_w (slcM xs hx hu TT hlo hy hle h0 h1 h2 hy2), L', _, _, rfl, h3, h4⟩
/-- A cut that was but looked into becomes a slice of its own. -/
theorem OwnS.cutV (ho : OwnS K L A c xs) (HF : Fits z w (L ++ R)) (h0 : 0 ≤ lo) (h1 : lo ≤ hi) (h2 : hi ≤ xs.length) : ∃ L', Fits z w (L' ++ R) ∧ OwnS K L' (cutA A (c - lo.toNat) (lo.toNat * K.sz)) (c - lo.toNat) (cutL xs lo hi) :=
  ho.cut HF h0 h1 h2 (q := c - lo.toNat) (by have := ho.le; omega) (Nat.le_refl _)
theorem len_cutSet {i : Int} {a : α} : (cutL (setI xs i a) lo hi).length = (cutL xs lo hi).length := by simp [cutL, setI]
theorem putSeg_all {l vc : List Value} (h : l.length = vc.length) : putSeg l 0 vc = vc := by
  unfold putSeg
  rw [List.take_zero, List.nil_append, Nat.zero_add, ← h, List.drop_length, List.append_nil]
/-- An element that is written whole. -/
theorem shrAll {G : Hp} {ci vc : List Value} {a b : α} (hci : (kShr G K).own [] ci a) (hv : vc.length = K.sz) (h : K.rd G vc b) : (kShr G K).own [] (putSeg ci 0 vc) b :=
  ⟨rfl, by rw [putSeg_all ((K.len hci.2).trans hv.symm)]; exact h⟩
end
end Go.Proofs.Ytbjnbjgiidcfjaa.Sp
