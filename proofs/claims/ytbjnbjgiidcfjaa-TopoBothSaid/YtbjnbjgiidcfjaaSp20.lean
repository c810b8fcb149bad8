/- The walk's own rules, part 20: elements whose inner slices are one's own: one of them is brought forth, grown, and put back; all of them are shared. -/
import Derived.Test.YtbjnbjgiidcfjaaSp19
set_option linter.unusedVariables false
set_option linter.unusedSimpArgs false
set_option linter.unusedSectionVars false
namespace Go.Proofs.Ytbjnbjgiidcfjaa.Sp
open Go
/-- A slice that lies in a value of the kind K, at cell off. -/
def SlF {α β : Type} (K : Kd α) (KL : Kd β) (get : α → List β) (set : α → List β → α) (off : Nat) : Prop :=
  ∀ {L : Hp} {cs : List Value} {x : α}, K.own L cs x → ∃ M1 Lk M2 A c, L = M1 ++ (Lk ++ M2) ∧ cs[off]? = some (.slice A (get x).length c) ∧ OwnS KL Lk A c (get x) ∧
    ∀ Lk' A' c' ys, OwnS KL Lk' A' c' ys → K.own (M1 ++ (Lk' ++ M2)) (cs.set off (.slice A' ys.length c')) (set x ys)
section
variable {P : Program} {E : List (Nat × Value)} {z w : World} {v : Value} {x y : Operand} {t : TypeId} {L Lk Lo R : Hp} {α β : Type} [Inhabited α] {K : Kd α} {KL : Kd β} {get : α → List β} {set : α → List β → α} {A : Option Addr} {c g o off : Nat} {xs : List α} {i : Int}
/-- The row, one of its inner slices brought forth. -/
def LentS (K : Kd α) (KL : Kd β) (set : α → List β → α) (off : Nat) (Lo : Hp) (g o c : Nat) (xs : List α) (i : Int) : Prop :=
  ∃ arr T Lr, Lo = (g, .cells arr T (0, 0)) :: Lr ∧ o + i.toNat * K.sz + off < arr.size ∧ ∀ Lk' A' c' ys, OwnS KL Lk' A' c' ys →
    ∃ L'', ((g, Obj.cells (arr.setIfInBounds (o + i.toNat * K.sz + off) (.slice A' ys.length c')) T (0, 0)) :: (Lk' ++ Lr)).Perm L'' ∧ OwnS K L'' (some ⟨g, o, none⟩) c (setI xs i (set (Sp.rd xs i) ys))
theorem OwnS.focF (F : SlF K KL get set off) (HF : Fits z w (L ++ R)) (ho : OwnS K L (some ⟨g, o, none⟩) c xs) (h0 : 0 ≤ i) (h1 : i < xs.length) :
    ∃ Lk Lo A' c', Fits z w (Lk ++ (Lo ++ R)) ∧ CellIn Lo ⟨g, o + i.toNat * K.sz + off, none⟩ (.slice A' (get (Sp.rd xs i)).length c') ∧ OwnS KL Lk A' c' (get (Sp.rd xs i)) ∧ LentS K KL set off Lo g o c xs i := by
  rcases ho with ⟨h, _⟩ | ⟨g1, o1, arr, T1, Lr, hA, rfl, hle, hm, hs, he⟩
  · cases h
  · simp only [Option.some.injEq, Addr.mk.injEq, and_true] at hA
    obtain ⟨rfl, rfl⟩ := hA
    obtain ⟨L1, Li, L2, c1, ci, c2, hL, hcs, hc1, k1, k2, k3⟩ := he.at_ (rd_get h0 h1)
    obtain ⟨M1, Lk, M2, A', c', rfl, hci, hk, hback⟩ := F k2
    have hin : i.toNat < xs.length := by omega
    have hoff : off < ci.length := (List.getElem?_eq_some_iff.1 hci).1
    have hcl := K.len (K.toRd k2)
    have hbd : i.toNat * K.sz + K.sz ≤ xs.length * K.sz := by rw [← Nat.succ_mul]; exact Nat.mul_le_mul_right _ (by omega)
    have hbd2 : xs.length * K.sz ≤ c * K.sz := Nat.mul_le_mul_right _ hle
    have hlt : o + i.toNat * K.sz + off < arr.size := by omega
    have hcell : arr[o + i.toNat * K.sz + off]? = some (.slice A' (get (Sp.rd xs i)).length c') := by
      have h2 : ((arr.toList.drop o).take (xs.length * K.sz))[i.toNat * K.sz + off]? = some (.slice A' (get (Sp.rd xs i)).length c') := by
        rw [hcs, List.getElem?_append_right (by omega), hc1, Nat.add_sub_cancel_left, List.getElem?_append_left hoff]
        exact hci
      rw [List.getElem?_take, if_pos (by omega), List.getElem?_drop] at h2
      rw [← Array.getElem?_toList, Nat.add_assoc]; exact h2
    refine ⟨Lk, (g, .cells arr T1 (0, 0)) :: (L1 ++ (M1 ++ (M2 ++ L2))), A', c', ?_, ⟨rfl, arr, T1, (0, 0), List.mem_cons_self .., hcell⟩, hk, arr, T1, _, rfl, hlt, ?_⟩
    · refine HF.perm ?_
      subst hL
      simp only [List.cons_append, List.append_assoc]
      refine (List.Perm.cons _ ?_).trans List.perm_middle.symm
      refine (List.Perm.append_left L1 ?_).trans (perm_f (A := L1) (B := Lk) (R' := M1 ++ (M2 ++ (L2 ++ R))) (List.Perm.refl _))
      exact perm_f (A := M1) (B := Lk) (List.Perm.refl _)
    · intro Lk' A2 c2' ys hk'
      have hn := hback Lk' A2 c2' ys hk'
      have e2 : setI xs i (set (Sp.rd xs i) ys) = xs.take i.toNat ++ (set (Sp.rd xs i) ys :: xs.drop (i.toNat + 1)) := by simp [setI, List.set_eq_take_append_cons_drop, hin]
      refine ⟨(g, .cells (arr.setIfInBounds (o + i.toNat * K.sz + off) (.slice A2 ys.length c2')) T1 (0, 0)) :: (L1 ++ ((M1 ++ (Lk' ++ M2)) ++ L2)), ?_, ?_⟩
      · refine List.Perm.cons _ ?_
        refine List.Perm.symm ?_
        simp only [List.append_assoc]
        refine (List.Perm.append_left L1 ?_).trans (perm_f (A := L1) (B := Lk') (R' := M1 ++ (M2 ++ L2)) (List.Perm.refl _))
        exact perm_f (A := M1) (B := Lk') (List.Perm.refl _)
      · refine .inr ⟨g, o, _, T1, _, rfl, rfl, by rw [len_setI]; exact hle, hm, by simpa using hs, ?_⟩
        have hlen2 : c1.length + ci.length + c2.length = xs.length * K.sz := by
          have h2 := he.len
          rw [hcs] at h2
          simp only [List.length_append] at h2
          omega
        have e3 : (((arr.setIfInBounds (o + i.toNat * K.sz + off) (.slice A2 ys.length c2')).toList.drop o).take ((setI xs i (set (Sp.rd xs i) ys)).length * K.sz)) = c1 ++ (ci.set off (.slice A2 ys.length c2') ++ c2) := by
          rw [len_setI, Array.toList_setIfInBounds, List.drop_set, if_neg (by omega), List.take_set, hcs]
          have e4 : o + i.toNat * K.sz + off - o = c1.length + off := by omega
          rw [e4, List.set_append_right _ _ (by omega), Nat.add_sub_cancel_left, List.set_append_left _ _ hoff]
        rw [e3, e2]
        exact OwnE.app k1 ⟨_, _, _, _, rfl, rfl, hn, k3⟩
theorem oStF {Lk' : Hp} {A' : Option Addr} {c' by_ : Nat} {ys : List β} {ds : TypeDesc} {zv : Value} (HF : Fits z w (Lk' ++ (Lo ++ R))) (hl : LentS K KL set off Lo g o c xs i) (hk : OwnS KL Lk' A' c' ys)
    (hx : lv E x = some (.pointer (some ⟨g, o + i.toNat * K.sz + off, none⟩))) (hy : lv E y = some (.slice A' ys.length c')) (TT : TI P t ds zv 1 by_) :
    ∃ w', RunS P E w (.store t x y) w' ∧ ∃ L'', Fits z w' (L'' ++ R) ∧ OwnS K L'' (some ⟨g, o, none⟩) c (setI xs i (set (Sp.rd xs i) ys)) := by
  obtain ⟨arr, T, Lr, rfl, hlt, hb⟩ := hl
  obtain ⟨L'', hp, ho⟩ := hb Lk' A' c' ys hk
  have HF2 : Fits z w ((g, .cells arr T (0, 0)) :: (Lk' ++ (Lr ++ R))) := HF.perm (by
    simp only [List.cons_append]
    exact List.perm_middle)
  have e0 : (bk g T arr.toList : Nat × Obj) = (g, .cells arr T (0, 0)) := by simp [bk]
  rw [← e0] at HF2
  have hrun := storeVar_run (t := t) (v := .slice A' ys.length c') (o := o + i.toNat * K.sz + off) HF2 TT rfl (by intro u hu; simp only [cellsL, List.mem_singleton] at hu; subst hu; rfl) (by rw [Array.length_toList]; omega)
  refine ⟨_, fun n a _ _ _ _ _ hE => by simp [execOp, hE.ev hx, hE.ev hy, Instr.storeAt, Instr.sureAddr, hrun]; rfl, L'', ?_, ho⟩
  have h3 := HF2.setRow (c' := (putSeg arr.toList (o + i.toNat * K.sz + off) (cellsL (.slice A' ys.length c'))).toArray)
  have e1 : (putSeg arr.toList (o + i.toNat * K.sz + off) (cellsL (.slice A' ys.length c'))).toArray = arr.setIfInBounds (o + i.toNat * K.sz + off) (.slice A' ys.length c') := by
    apply Array.ext'
    simp only [cellsL, putSeg, Array.toList_setIfInBounds]
    rw [List.set_eq_take_append_cons_drop, if_pos (by rw [Array.length_toList]; exact hlt)]
    simp
  rw [e1] at h3
  rw [e1]
  refine h3.perm ?_
  have h4 := List.Perm.append_right R hp
  simp only [List.cons_append, List.append_assoc] at h4
  exact h4
/-- All that the elements hold is shared from here on. -/
theorem own_share {X : Hp} : ∀ {L : Hp} {cs : List Value} {xs : List α}, OwnE K L cs xs → L ⊆ X → OwnE (kShr X K) [] cs xs
  | _, _, [], ⟨rfl, rfl⟩, _ => ⟨rfl, rfl⟩
  | _, _, x :: xs, ⟨L1, L2, c1, c2, rfl, rfl, h1, h2⟩, hs => ⟨[], [], c1, c2, rfl, rfl, ⟨rfl, K.mono (K.toRd h1) (fun p hp => hs (List.mem_append_left _ hp))⟩, own_share h2 (fun p hp => hs (List.mem_append_right _ hp))⟩
theorem OwnS.share (ho : OwnS K L A c xs) : ∃ Lr Li, L = Lr ++ Li ∧ ∀ {X : Hp}, Li ⊆ X → OwnS (kShr X K) Lr A c xs := by
  rcases ho with ⟨rfl, rfl, rfl, rfl⟩ | ⟨g, o, arr, T, Lr, rfl, rfl, hle, hm, hs, he⟩
  · exact ⟨[], [], rfl, fun _ => OwnS.nil⟩
  · exact ⟨[(g, .cells arr T (0, 0))], Lr, rfl, fun hX => .inr ⟨g, o, arr, T, [], rfl, rfl, hle, hm, hs, own_share he hX⟩⟩
end
end Go.Proofs.Ytbjnbjgiidcfjaa.Sp
