/- The walk's own rules, part 10: append, literals, make, stores into elements of one's own. -/
import Derived.Test.YtbjnbjgiidcfjaaSp9
set_option linter.unusedVariables false
set_option linter.unusedSimpArgs false
namespace Go.Proofs.Ytbjnbjgiidcfjaa.Sp
open Go
/-- A kind whose values own nothing. -/
def Shr {α : Type} (K : Kd α) : Prop := (∀ L cs x, K.own L cs x → L = []) ∧ ∀ X cs x, K.rd X cs x → K.own [] cs x
theorem shrF {α : Type} {enc : α → List Value} {n : Nat} {hn : ∀ x, (enc x).length = n} {h1 : ∀ x, ∀ v ∈ enc x, v.oneCell' = true} : Shr (kFlat enc n hn h1) := ⟨fun _ _ _ h => h.1, fun _ _ _ h => ⟨rfl, h⟩⟩
theorem shrS {α : Type} {G : Hp} {K : Kd α} : Shr (kShr G K) := ⟨fun _ _ _ h => h.1, fun _ _ _ h => ⟨rfl, h⟩⟩
section
variable {P : Program} {E : List (Nat × Value)} {z w : World} {op : Op} {v u : Value} {x y : Operand} {t e sT xT : TypeId} {L Lo R X Y G G' X' H : Hp} {α : Type} {K K' : Kd α} {A A2 : Option Addr} {c c2 g o m : Nat} {xs ys : List α} {cs : List Value}
theorem Shr.nil (hK : Shr K) : ∀ {xs : List α} {L : Hp} {cs : List Value}, OwnE K L cs xs → L = []
  | [], _, _, h => h.1
  | _ :: _, _, _, ⟨L1, L2, c1, c2, e1, e2, h1, h2⟩ => by rw [e1, hK.1 _ _ _ h1, hK.nil h2]; rfl
/-- The cells of a slice, as a source. -/
theorem srcR (hK : Shr K) (hr : RdS K X A c xs) (HF : Fits z w H) (hs : X ⊆ H) : ∃ cs, OwnE K [] cs xs ∧ Src w A xs.length K.sz cs := by
  rcases hr.2 with rfl | ⟨g, o, rfl, hh⟩
  · exact ⟨[], ⟨rfl, rfl⟩, by simp, .inl rfl⟩
  · have key : ∀ (ys : List α) (k : Nat), (∀ i x, ys[i]? = some x → xs[k + i]? = some x) → ∃ cs, OwnE K [] cs ys ∧ ∀ j v, cs[j]? = some v → CellIn X ⟨g, o + k * K.sz + j, none⟩ v := by
      intro ys
      induction ys with
      | nil => intro k _; exact ⟨[], ⟨rfl, rfl⟩, fun j v hv => by simp at hv⟩
      | cons y ys ih =>
        intro k hk
        obtain ⟨c1, k1, k2⟩ := hh k y (hk 0 y (by simp))
        obtain ⟨c2, k3, k4⟩ := ih (k + 1) (fun i x hi => by
          have := hk (i + 1) x (by simpa using hi)
          rw [show k + 1 + i = k + (i + 1) by omega]; exact this)
        refine ⟨c1 ++ c2, ⟨[], [], c1, c2, rfl, rfl, hK.2 _ _ _ k1, k3⟩, fun j v hv => ?_⟩
        have hl := K.len k1
        rw [List.getElem?_append] at hv
        split at hv
        · exact k2 j v hv
        · have := k4 _ v hv
          rw [show o + (k + 1) * K.sz + (j - c1.length) = o + k * K.sz + j by rw [Nat.add_mul]; omega] at this
          exact this
    obtain ⟨cs, h1, h2⟩ := key xs 0 (fun i x hi => by simpa using hi)
    refine ⟨cs, h1, h1.len, .inr ⟨_, rfl, fun j v hv => ?_⟩⟩
    rw [add_mk]
    have := h2 j v hv
    simp only [Nat.zero_mul, Nat.add_zero] at this
    exact HF.cells hs this
theorem oApp {ds : TypeDesc} {zv : Value} {by_ : Nat} (K : Kd α) (HF : Fits z w (Lo ++ R)) (hx : lv E x = some (.slice A xs.length c)) (hy : lv E y = some (.slice A2 ys.length c2)) (hu : P.underlying sT = some (.slice e)) (hu2 : P.underlying xT = some (.slice e)) (TT : TI P e ds zv K.sz by_) (hz : (cellsL zv).length = K.sz) (ho : OwnS K Lo A c xs)
    (hs : ∃ cs, OwnE K [] cs ys ∧ Src w A2 ys.length K.sz cs) (hb : (xs.length + ys.length) * by_ ≤ 140737488355328) (hby : Nat.blt 0 by_ = true) :
    ∃ u w', RunW P E w (.call { callee := .builtin .append, args := #[x, y], argTypes := #[sT, xT] }) u w' ∧ ∃ L A' c', u = .slice A' (xs ++ ys).length c' ∧ Fits z w' (L ++ R) ∧ OwnS K L A' c' (xs ++ ys) := by
  obtain ⟨cs, he, hs⟩ := hs
  obtain ⟨L, A', c', w', hr, h1, h2⟩ := app_run (Le := []) (ty := 0) HF hu hu2 TT hz ho hs he rfl hb (by simp [Nat.blt] at hby; omega)
  refine ⟨_, w', fun n a _ ty _ _ _ hE => ?_, L, A', c', rfl, h1, h2⟩
  have hr' : (Builtin.append_ #[sT, xT] ty #[.slice A xs.length c, .slice A2 ys.length c2]).run P w = .ok (.slice A' (xs ++ ys).length c') w' := hr
  simp [execOp, resolve, invoke, builtin, hE.ev hx, hE.ev hy, hr']
theorem oLit {ds : TypeDesc} {zv : Value} {sz by_ m : Nat} {ps : Array (Nat × Operand)} {pv : List (Nat × Value)} {r : List Value} (K : Kd α) (xs : List α) (HF : Fits z w R) (hu : P.underlying t = some (.slice e)) (TT : TI P e ds zv sz by_) (hb : Nat.ble (m * sz) 16777216 = true) (hz : (cellsL zv).length = sz) (hv : lps E ps.toList = some pv)
    (hf : fillL (fun i => some (i * sz, sz)) ((List.range (m * sz)).map (fun i => (cellsL zv).getD (i % sz) undef)) pv = some r) (ho : OwnE K [] r xs) (hm : xs.length = m) (hx : Nat.ble m 16777216 = true) :
    ∃ u w', RunW P E w (.buildSlice t m ps) u w' ∧ ∃ L A c, u = .slice A xs.length c ∧ Fits z w' (L ++ R) ∧ OwnS K L A c xs := by
  subst hm
  have hx' : xs.length ≤ maxLen := by
    have := Nat.le_of_ble_eq_true hx
    unfold maxLen; omega
  exact ⟨_, _, rLit hu TT hb hz hv hf, [bk w.heap.size e r], _, _, rfl, HF.alloc _, OwnS.lit ho hx'⟩

/-! ### make -/
theorem cells_rep (zc : List Value) (m k : Nat) (hz : zc.length = k) : ∀ (x : α), K.own [] zc x → K.sz = k → OwnE K [] ((List.range (m * k)).map (fun i => zc.getD (i % k) undef)) (List.replicate m x) := by
  intro x hx hs
  have hone : (List.range k).map (fun i => zc.getD (i % k) undef) = zc := by
    apply List.ext_getElem (by simp [hz])
    intro i h1 h2
    have hi : i < k := by rw [← hz]; exact h2
    simp [Nat.mod_eq_of_lt hi, List.getD_eq_getElem?_getD, h2]
  induction m with
  | zero => simp; exact ⟨rfl, rfl⟩
  | succ m ih =>
    rw [Nat.add_mul, Nat.one_mul, Nat.add_comm, List.range_add, List.map_append, List.replicate_succ, hone, List.map_map]
    refine ⟨[], [], _, _, rfl, rfl, hx, ?_⟩
    have : ((fun i => zc.getD (i % k) undef) ∘ fun x => k + x) = (fun i => zc.getD (i % k) undef) := by funext i; simp
    rw [this]; exact ih
theorem oMake {kl kc : IntKind} {ds : TypeDesc} {zv : Value} {sz by_ : Nat} {n cp : Int} (K : Kd α) (d : α) (HF : Fits z w R) (hx : lv E x = some (.int kl n)) (hy : lv E y = some (.int kc cp)) (hu : P.underlying t = some (.slice e)) (TT : TI P e ds zv sz by_) (hk : K.sz = sz) (hz : (cellsL zv).length = sz) (hd : K.own [] (cellsL zv) d) (h0 : 0 ≤ n) (h1 : n ≤ cp) (hb : cp.toNat * by_ ≤ 140737488355328) (hc : cp.toNat ≤ 140737488355328) :
    ∃ u w', RunW P E w (.makeSlice t x y) u w' ∧ ∃ L A c, u = .slice A (List.replicate n.toNat d).length c ∧ Fits z w' (L ++ R) ∧ OwnS K L A c (List.replicate n.toNat d) := by
  have wl : IntKind.i64.wrap n = n := by rw [IntKind.wrap_i64]; omega
  have wc : IntKind.i64.wrap cp = cp := by rw [IntKind.wrap_i64]; omega
  obtain ⟨i, hi1, hi2, hi3, hi4⟩ := TT.info
  have hbi : (i.bytes : Int) * cp ≤ 140737488355328 := by
    rw [hi4]
    have : ((cp.toNat * by_ : Nat) : Int) = (by_ : Int) * cp := by rw [Int.natCast_mul, Int.toNat_of_nonneg (by omega), Int.mul_comm]
    omega
  have n1 : ¬ cp < 0 := by omega
  have n2 : ¬ (281474976710656 < (i.bytes : Int) * cp) := by omega
  have n3 : ¬ n < 0 := by omega
  have n4 : ¬ cp < n := by omega
  have n5 : ¬ (140737488355328 < cp.toNat * i.bytes) := by rw [hi4]; omega
  have hcl := cells_lit (cellsL zv) cp.toNat sz hz
  have hcl' : ((Array.range (cp.toNat * sz)).map (fun i => ((cellsL zv).toArray)[i % ((cellsL zv).toArray).size]!)) = ((List.range (cp.toNat * sz)).map (fun i => (cellsL zv).getD (i % sz) undef)).toArray := by rw [← hcl]
  have hrun : (Instr.makeSlice t (.int kl n) (.int kc cp)).run P w = .ok (.slice (some ⟨w.heap.size, 0, none⟩) n.toNat cp.toNat) (w.alloc (bk 0 e ((List.range (cp.toNat * sz)).map (fun i => (cellsL zv).getD (i % sz) undef))).2) := by
    by_cases hn : cp.toNat * i.size = 0
    · have hn' : cp.toNat * sz = 0 := by rw [← hi3]; exact hn
      have h3 : ((Array.range 0).map (fun x : Nat => (default : Value))) = #[] := by apply Array.ext'; simp
      simp [Instr.makeSlice, run_underlying hu, asInt, asIntOf, typeInfo, hi1, sizeOf, wl, wc, n1, n2, n3, n4, n5, hn, hn', newRow, askRoom, roomBytes, h3]
    · have e1 : i.size = sz := hi3
      have hcl2 : (Array.map (fun x => zv.cells[x % zv.cells.size]!) (Array.range (cp.toNat * i.size))) = ((List.range (cp.toNat * sz)).map (fun i => (cellsL zv).getD (i % sz) undef)).toArray := by rw [cells_eq, e1]; exact hcl'
      simp only [Instr.makeSlice, run_underlying hu, asInt, asIntOf, typeInfo, hi1, sizeOf, zeroValue, hi2, wl, wc, Sem.run_bind, Result.andThen_ok, Sem.run_pure, Option.elim]
      simp [n1, n2, n3, n4, n5, hn, newRow, askRoom, roomBytes, hcl2, typeInfo, hi1, zeroValue, hi2]
  refine ⟨_, _, fun nn a _ _ _ _ _ hE => by simp [execOp, hE.ev hx, hE.ev hy, hrun]; rfl, [bk w.heap.size e ((List.range (cp.toNat * sz)).map (fun i => (cellsL zv).getD (i % sz) undef))], some ⟨w.heap.size, 0, none⟩, cp.toNat, by simp, HF.alloc _, ?_⟩
  have hrep := cells_rep (K := K) (cellsL zv) n.toNat sz hz d hd hk
  refine .inr ⟨w.heap.size, 0, _, e, [], rfl, rfl, by simp; omega, by simp only [maxLen]; omega, by simp [hk], ?_⟩
  have : (((((List.range (cp.toNat * sz)).map (fun i => (cellsL zv).getD (i % sz) undef)).toArray.toList.drop 0).take ((List.replicate n.toNat d).length * K.sz))) = ((List.range (n.toNat * sz)).map (fun i => (cellsL zv).getD (i % sz) undef)) := by
    simp only [List.drop_zero, List.toList_toArray, List.length_replicate, hk]
    rw [← List.map_take, List.take_range, Nat.min_eq_left (Nat.mul_le_mul_right _ (by omega))]
  rw [this]; exact hrep

/-! ### A store into an element -/
def setI (xs : List α) (i : Int) (x : α) : List α := xs.set i.toNat x
theorem len_setI {xs : List α} {i : Int} {x : α} : (setI xs i x).length = xs.length := by simp [setI]
theorem putSeg_app {a b c vc : List Value} {p : Nat} (hp : p = a.length) (h : b.length = vc.length) : putSeg (a ++ (b ++ c)) p vc = a ++ (vc ++ c) := by
  subst hp
  unfold putSeg
  rw [List.take_left, ← h, ← List.drop_drop, List.drop_left, List.drop_left, List.append_assoc]
theorem putSeg_mid {c1 ci c2 vc l : List Value} {off p q : Nat} (hp : p = q + c1.length + off) (hb : off + vc.length ≤ ci.length) (hq : q ≤ l.length) (h : (l.drop q).take (c1.length + ci.length + c2.length) = c1 ++ (ci ++ c2)) :
    ((putSeg l p vc).drop q).take (c1.length + ci.length + c2.length) = c1 ++ (putSeg ci off vc ++ c2) := by
  subst hp
  obtain ⟨A, B, rfl, hA⟩ : ∃ A B, l = A ++ ((c1 ++ (ci ++ c2)) ++ B) ∧ A.length = q := by
    refine ⟨l.take q, l.drop (q + (c1.length + ci.length + c2.length)), ?_, by simp; omega⟩
    rw [← h, ← List.drop_drop, List.take_append_drop, List.take_append_drop]
  obtain ⟨p1, pm, p2, rfl, h1, h2⟩ : ∃ p1 pm p2, ci = p1 ++ (pm ++ p2) ∧ p1.length = off ∧ pm.length = vc.length := by
    refine ⟨ci.take off, (ci.drop off).take vc.length, (ci.drop off).drop vc.length, by rw [List.take_append_drop, List.take_append_drop], by simp; omega, by simp; omega⟩
  have e1 : A ++ ((c1 ++ ((p1 ++ (pm ++ p2)) ++ c2)) ++ B) = (A ++ (c1 ++ p1)) ++ (pm ++ (p2 ++ (c2 ++ B))) := by simp
  rw [e1, putSeg_app (by simp; omega) h2, putSeg_app h1.symm h2]
  have e2 : (A ++ (c1 ++ p1)) ++ (vc ++ (p2 ++ (c2 ++ B))) = A ++ ((c1 ++ ((p1 ++ (vc ++ p2)) ++ c2)) ++ B) := by simp
  rw [e2, ← hA, List.drop_left]
  have e3 : c1.length + (p1 ++ (pm ++ p2)).length + c2.length = (c1 ++ ((p1 ++ (vc ++ p2)) ++ c2)).length := by simp; omega
  rw [e3, List.take_left]
theorem oStE {i : Int} {off sz by_ : Nat} {ds : TypeDesc} {zv : Value} {y' : α} [Inhabited α] (hK : Shr K) (HF : Fits z w (L ++ R)) (ho : OwnS K L (some ⟨g, o, none⟩) c xs) (h0 : 0 ≤ i) (h1 : i < xs.length) (hx : lv E x = some (.pointer (some ⟨g, o + i.toNat * K.sz + off, none⟩))) (hy : lv E y = some v) (TT : TI P t ds zv sz by_) (hl : (cellsL v).length = sz) (h1v : ∀ u ∈ cellsL v, u.oneCell' = true) (hb : off + sz ≤ K.sz)
    (hn : ∀ ci, K.own [] ci (rd xs i) → K.own [] (putSeg ci off (cellsL v)) y') :
    ∃ w', RunS P E w (.store t x y) w' ∧ ∃ L', Fits z w' (L' ++ R) ∧ OwnS K L' (some ⟨g, o, none⟩) c (setI xs i y') := by
  rcases ho with ⟨h, _⟩ | ⟨g', o', arr, T, Lr, hA, rfl, hle, hm, hs, he⟩
  · cases h
  · simp only [Option.some.injEq, Addr.mk.injEq, and_true] at hA
    obtain ⟨rfl, rfl⟩ := hA
    obtain rfl := hK.nil he
    obtain ⟨L1, Li, L2, c1, ci, c2, hL, hcs, hc1, k1, k2, k3⟩ := he.at_ (rd_get h0 h1)
    have hLi := hK.1 _ _ _ k2
    subst hLi
    obtain rfl := hK.nil k1
    obtain rfl := hK.nil k3
    have hci := K.len (K.toRd k2)
    have hnew := hn ci k2
    have hin : i.toNat < xs.length := by omega
    have hlen : c1.length + ci.length + c2.length = xs.length * K.sz := by
      have h2 := he.len
      rw [hcs] at h2
      simp only [List.length_append] at h2
      omega
    have hub : o + i.toNat * K.sz + off + sz ≤ arr.size := by
      have : i.toNat * K.sz + K.sz ≤ c * K.sz := by rw [← Nat.succ_mul]; exact Nat.mul_le_mul_right _ (by omega)
      omega
    have hg := HF.here _ (List.mem_cons_self ..)
    have hst := run_storeCells_at P g (o + i.toNat * K.sz + off) T (cellsL v) 0 arr w hg (by rw [hl]; omega) h1v
    simp only [Nat.add_zero] at hst
    have hsv : (storeVar t ⟨g, o + i.toNat * K.sz + off, none⟩ v).run P w = .ok () (w.setRow g (putSeg arr.toList (o + i.toNat * K.sz + off) (cellsL v)).toArray) := by
      have hs : (v.cells).size = sz := by rw [cells_eq]; simpa using hl
      simp [storeVar, TT.size w, hs, cells_toList, hst, putSeg]
    refine ⟨w.setRow g (putSeg arr.toList (o + i.toNat * K.sz + off) (cellsL v)).toArray, fun n a _ _ _ _ _ hE => ?_, (g, .cells (putSeg arr.toList (o + i.toNat * K.sz + off) (cellsL v)).toArray T (0, 0)) :: [], HF.setRow, ?_⟩
    · simp [execOp, hE.ev hx, hE.ev hy, Instr.storeAt, Instr.sureAddr, hsv]
    · refine .inr ⟨g, o, _, T, [], rfl, rfl, by rw [len_setI]; exact hle, hm, ?_, ?_⟩
      · have := putSeg_len (l := arr.toList) (o := o + i.toNat * K.sz + off) (cs := cellsL v) (by rw [hl, Array.length_toList]; omega)
        simp only [List.size_toArray, this, Array.length_toList]; exact hs
      · rw [len_setI, ← hlen, List.toList_toArray, putSeg_mid (c1 := c1) (ci := ci) (c2 := c2) (off := off) (by omega) (by rw [hl, hci]; exact hb) (by rw [Array.length_toList]; omega) (by rw [hlen]; exact hcs)]
        have e1 : setI xs i y' = xs.take i.toNat ++ (y' :: xs.drop (i.toNat + 1)) := by simp [setI, List.set_eq_take_append_cons_drop, hin]
        rw [e1]
        exact OwnE.app (L1 := []) (L2 := []) k1 ⟨[], [], _, _, rfl, rfl, hnew, k3⟩
end
end Go.Proofs.Ytbjnbjgiidcfjaa.Sp
