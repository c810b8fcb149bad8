/- The walk's own rules, part 15: parts of elements; slices of pointers to objects of one's own. -/
import Derived.Test.YtbjnbjgiidcfjaaSp14
set_option linter.unusedVariables false
set_option linter.unusedSimpArgs false
namespace Go.Proofs.Ytbjnbjgiidcfjaa.Sp
open Go
section
variable {P : Program} {E : List (Nat × Value)} {z w : World} {v u : Value} {x y : Operand} {t e : TypeId} {L Lx R X Y G : Hp} {α : Type} {K : Kd α} {T : TypeId} {A : Option Addr} {c g o b off n : Nat} {ls cs : List Value} {xs : List (Option α)} {i : Int}
theorem el_part (q : ∀ j v, ls[j]? = some v → CellIn X ⟨g, b + j, none⟩ v) (h : (ls.drop off).take n = cs) : ∀ j v, cs[j]? = some v → CellIn X ⟨g, b + off + j, none⟩ v := by
  intro j v hv
  rw [← h, List.getElem?_take] at hv
  split at hv
  · rw [List.getElem?_drop] at hv
    have := q (off + j) v hv
    rw [Nat.add_assoc]; exact this
  · cases hv
/-- An object of a slice of pointers: it is brought forth; put back with what it has become. -/
theorem OwnS.foc (ho : OwnS (kPtr K T) L (some ⟨g, o, none⟩) c xs) (h0 : 0 ≤ i) (h1 : i < xs.length) {a : α} (ha : Sp.rd xs i = some a) :
    ∃ La Lb g' l Lx, L = La ++ (bk g' T l :: (Lx ++ Lb)) ∧ K.own Lx l a ∧ CellIn La ⟨g, o + i.toNat * 1, none⟩ (.pointer (some ⟨g', 0, none⟩)) ∧
      ∀ l' Lx' a', K.own Lx' l' a' → OwnS (kPtr K T) (La ++ (bk g' T l' :: (Lx' ++ Lb))) (some ⟨g, o, none⟩) c (setI xs i (some a')) := by
  rcases ho with ⟨h, _⟩ | ⟨g1, o1, arr, T1, Lr, hA, rfl, hle, hm, hs, he⟩
  · cases h
  · simp only [Option.some.injEq, Addr.mk.injEq, and_true] at hA
    obtain ⟨rfl, rfl⟩ := hA
    obtain ⟨L1, Li, L2, c1, ci, c2, hL, hcs, hc1, k1, k2, k3⟩ := he.at_ (rd_get h0 h1)
    rw [ha] at k2
    obtain ⟨g', l, Lx, rfl, rfl, k4⟩ := k2
    subst hL
    have hin : i.toNat < xs.length := by omega
    have e1 : (kPtr K T).sz = 1 := rfl
    rw [e1, Nat.mul_one] at hc1 hcs
    have hcell : arr[o + i.toNat]? = some (.pointer (some ⟨g', 0, none⟩)) := by
      have h2 : ((arr.toList.drop o).take xs.length)[i.toNat]? = some (.pointer (some ⟨g', 0, none⟩)) := by
        rw [hcs, List.getElem?_append_right (by omega), hc1, Nat.sub_self]; rfl
      rw [List.getElem?_take, if_pos hin, List.getElem?_drop] at h2
      rw [← Array.getElem?_toList]; exact h2
    refine ⟨(g, .cells arr T1 (0, 0)) :: L1, L2, g', l, Lx, by simp, k4, ⟨rfl, arr, T1, (0, 0), by simp, by rw [Nat.mul_one]; exact hcell⟩, ?_⟩
    intro l' Lx' a' hk
    refine .inr ⟨g, o, arr, T1, L1 ++ (bk g' T l' :: (Lx' ++ L2)), rfl, by simp, by rw [len_setI]; exact hle, hm, hs, ?_⟩
    rw [len_setI, e1, Nat.mul_one, hcs]
    have e2 : setI xs i (some a') = xs.take i.toNat ++ (some a' :: xs.drop (i.toNat + 1)) := by simp [setI, List.set_eq_take_append_cons_drop, hin]
    rw [e2]
    refine OwnE.app (L2 := bk g' T l' :: (Lx' ++ L2)) (c2 := [.pointer (some ⟨g', 0, none⟩)] ++ c2) k1 ?_
    exact ⟨bk g' T l' :: Lx', L2, [.pointer (some ⟨g', 0, none⟩)], c2, by simp, rfl, ⟨g', l', Lx', rfl, rfl, hk⟩, k3⟩
theorem setI_same (h0 : 0 ≤ i) (h1 : i < xs.length) {a : Option α} (ha : Sp.rd xs i = a) : setI xs i a = xs := by
  have h := rd_get h0 h1
  rw [ha] at h
  apply List.ext_getElem?
  intro j
  rw [setI, List.getElem?_set]
  split
  · rename_i hj
    subst hj
    rw [h]; split <;> simp_all
  · rfl
def optE {β : Type} (o : Option α) (a : β) (f : α → β) : β := match o with | none => a | some x => f x
theorem optN {β : Type} {q : Option α} {a b : β} {f : α → β} (h : q = none) (H : optE q a f = b) : a = b := by subst h; exact H
theorem optS {β : Type} {q : Option α} {x : α} {a b : β} {f : α → β} (h : q = some x) (H : optE q a f = b) : f x = b := by subst h; exact H
/-- A slice of pointers that is written out: its objects lie in front. -/
theorem oLitP {β : Type} {ds : TypeDesc} {zv : Value} {sz by_ m : Nat} {ps : Array (Nat × Operand)} {pv : List (Nat × Value)} {r : List Value} {Le : Hp} (K : Kd β) (ys : List β) (HF : Fits z w (Le ++ R)) (hu : P.underlying t = some (.slice e)) (TT : TI P e ds zv sz by_) (hb : Nat.ble (m * sz) 16777216 = true) (hz : (cellsL zv).length = sz) (hv : lps E ps.toList = some pv)
    (hf : fillL (fun i => some (i * sz, sz)) ((List.range (m * sz)).map (fun i => (cellsL zv).getD (i % sz) undef)) pv = some r) (ho : OwnE K Le r ys) (hm : ys.length = m) (hx : Nat.ble m 16777216 = true) :
    ∃ u w', RunW P E w (.buildSlice t m ps) u w' ∧ ∃ L A c, u = .slice A ys.length c ∧ Fits z w' (L ++ R) ∧ OwnS K L A c ys := by
  subst hm
  have hx' : ys.length ≤ maxLen := by
    have := Nat.le_of_ble_eq_true hx
    unfold maxLen; omega
  exact ⟨_, _, rLit hu TT hb hz hv hf, bk w.heap.size e r :: Le, _, _, rfl, HF.alloc _, OwnS.lit ho hx'⟩
/-- .. appended to one: what it owns goes over. -/
theorem oAppP {β : Type} {sT xT : TypeId} {ds : TypeDesc} {zv : Value} {by_ c2 : Nat} {A2 : Option Addr} {Lo Ly : Hp} {xs ys : List β} (K : Kd β) (HF : Fits z w (Lo ++ (Ly ++ R))) (hx : lv E x = some (.slice A xs.length c)) (hy : lv E y = some (.slice A2 ys.length c2)) (hu : P.underlying sT = some (.slice e)) (hu2 : P.underlying xT = some (.slice e)) (TT : TI P e ds zv K.sz by_) (hz : (cellsL zv).length = K.sz) (ho : OwnS K Lo A c xs) (hy2 : OwnS K Ly A2 c2 ys)
    (hb : (xs.length + ys.length) * by_ ≤ 140737488355328) (hby : Nat.blt 0 by_ = true) :
    ∃ u w', RunW P E w (.call { callee := .builtin .append, args := #[x, y], argTypes := #[sT, xT] }) u w' ∧ ∃ L A' c', u = .slice A' (xs ++ ys).length c' ∧ Fits z w' (L ++ R) ∧ OwnS K L A' c' (xs ++ ys) := by
  obtain ⟨cs, he, hs⟩ := hy2.src (HF.f1)
  have HF2 : Fits z w (Lo ++ (Ly.tail ++ R)) := HF.sublist (sl_a (List.Sublist.append_right (List.tail_sublist Ly) R))
  obtain ⟨L, A', c', w', hr, h1, h2⟩ := app_run (ty := 0) HF2 hu hu2 TT hz ho hs he rfl hb (by simp [Nat.blt] at hby; omega)
  refine ⟨_, w', fun n a _ ty _ _ _ hE => ?_, L, A', c', rfl, h1, h2⟩
  have hr' : (Builtin.append_ #[sT, xT] ty #[.slice A xs.length c, .slice A2 ys.length c2]).run P w = .ok (.slice A' (xs ++ ys).length c') w' := hr
  simp [execOp, resolve, invoke, builtin, hE.ev hx, hE.ev hy, hr']
/-- A pointer that is nil. -/
theorem OwnS.nilel (ho : OwnS (kPtr K T) L (some ⟨g, o, none⟩) c xs) (h0 : 0 ≤ i) (h1 : i < xs.length) (ha : Sp.rd xs i = none) (HF : Fits z w (L ++ R)) : w.cell? ⟨g, o + i.toNat * 1, none⟩ = some (.pointer none) := by
  obtain ⟨cs, k1, k2⟩ := RdS.at' ho.rd h0 h1
  rw [ha] at k1
  have k1' : cs = [.pointer none] := k1
  subst k1'
  have := k2 0 _ rfl
  have e1 : (kPtr K T).sz = 1 := rfl
  rw [e1, Nat.add_zero] at this
  exact HF.cells sub_h this
end
end Go.Proofs.Ytbjnbjgiidcfjaa.Sp
