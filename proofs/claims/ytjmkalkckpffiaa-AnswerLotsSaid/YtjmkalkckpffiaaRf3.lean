/- The walk's own rules for a range over a function, part 3: regions that call yield; the counting of parts. -/
import Derived.Test.YtjmkalkckpffiaaRf2
set_option linter.unusedVariables false
set_option linter.unusedSimpArgs false
namespace Go.Proofs.Ytjmkalkckpffiaa.Sp
open Go
/-- A list of operations, one of which may call yield. -/
def WLY (P : Program) (n : Nat) (l : List Oper) (E : List (Nat × Value)) (w : World) (Q : Exit → Act → World → Prop) : Prop :=
  ∀ ops a, Env n E a → wpListIn Fence.wide 0 P ops Q l a w
section
variable {P : Program} {n : Nat} {l : List Oper} {E : List (Nat × Value)} {z w : World} {Q : Exit → Act → World → Prop} {op : Op} {ty : TypeId} {pos : String} {af : Array Edge} {v u : Value} {d : Nat} {x : Operand} {f : Operand} {ts : Array TypeId}
theorem cRgnY {id : Nat} {ops : List Oper} (h : WLY P n ops E w Q) : WC P n (.region id ops.toArray false) E w Q :=
  fun a hE => (wpIn_wide (n := 0)).1 (wpIn_region_lit (h _ a hE))
theorem yL (h : Run P E w op v) (hd : Nat.blt d n = true) (k : WLY P n l ((d, v) :: E) w Q) : WLY P n (⟨some d, op, ty, pos, af, none⟩ :: l) E w Q := by
  intro ops a hE
  refine wpListIn_plain rfl fun K hK => ⟨fun _ _ => trivial, ?_⟩
  have e : (Oper.semAt Fence.wide.round a.eval ⟨some d, op, ty, pos, af, none⟩).run P w = .ok (.value v) w := h n a _ _ _ _ _ hE
  rw [e]
  exact hK _ _ (k ops _ (hE.put hd v))
theorem yYield {lr : Nat} {R : Ending → World → Prop} (hf : lv E f = some (.func (.yield lr) #[] #[])) (hx : lv E x = some u) (hy : YieldAt Fence.wide 0 P lr #[u] w R) (hd : Nat.blt d n = true)
    (k : ∀ e w', R e w' → ∃ v, e = .returned v ∧ WLY P n l ((d, v) :: E) w' Q) : WLY P n (⟨some d, .call { callee := .value f, args := #[x], argTypes := ts }, ty, pos, af, none⟩ :: l) E w Q := by
  intro ops a hE
  refine wpListIn_plain rfl fun K hK => ⟨fun _ _ => trivial, ?_⟩
  obtain ⟨fn, tmps, assign, body, hrun, hround⟩ := hy
  have e : (Oper.semAt Fence.wide.round a.eval ⟨some d, .call { callee := .value f, args := #[x], argTypes := ts }, ty, pos, af, none⟩).run P w = .ok (.round lr fn tmps assign body) w := by
    show (execOp a.eval ⟨some d, .call { callee := .value f, args := #[x], argTypes := ts }, ty, pos, af, none⟩).run P w = _
    simp [execOp, resolve, hE.ev hf, hE.ev hx, Deferred.ofValue, invoke]
    exact hrun
  rw [e]
  refine ⟨(fun hd => by simp [Fence.wide] at hd), hround.mono ?_⟩
  intro e w' hR
  obtain ⟨v, rfl, h2⟩ := k e w' hR
  exact hK _ _ (h2 ops _ (hE.put hd v))
theorem ySet {i : Nat} (h : lk E i = some u) (e : u = v) (k : WLY P n l ((i, v) :: E) w Q) : WLY P n l E w Q := fun ops a hE => k ops a ⟨hE.size, hE.defers, fun j x hj => by
  by_cases hi : j = i
  · subst hi; obtain rfl := lk_cons_eq hj; exact hE.get j x (e ▸ h)
  · rw [lk_cons_ne hi] at hj; exact hE.get j x hj⟩
theorem yEnd (h : WK n E w (Q .normal)) : WLY P n [] E w Q := fun ops a hE => h a hE
/-- A region that draws, the world as it is then. -/
theorem cDrawW {id : Nat} {l : List Oper} {m : Nat} (hm : P.follows .mixedOrders = true) (hl : l.length = m) (S : World → Prop) (h : WH P n l.toArray S m (Array.replicate m false) E { w with drawn := w.drawn + 1 } Q) : WC P n (.region id l.toArray true) E w Q := by
  subst hl
  intro a hE
  refine wp_region_held (S := S) hm ?_
  simpa using h a hE
end
theorem chN_lt {n k j : Nat} (hk : 0 < k) : j < chN n k ↔ j * k < n := by
  unfold chN
  rw [Nat.lt_iff_add_one_le, Nat.le_div_iff_mul_le hk, Nat.add_mul]
  omega
theorem chN_le {n k j : Nat} (hk : 0 < k) : chN n k ≤ n := by
  unfold chN
  rcases Nat.eq_zero_or_pos n with rfl | h
  · rw [Nat.div_eq_of_lt (by omega)]; exact Nat.le_refl _
  · have h1 : (n + k - 1) / k ≤ (n * k) / k := Nat.div_le_div_right (by
      have : n - 1 ≤ (n - 1) * k := Nat.le_mul_of_pos_right _ hk
      have h2 : n * k = (n - 1) * k + k := by rw [← Nat.succ_mul]; congr 1; omega
      omega)
    rwa [Nat.mul_div_cancel _ hk] at h1
/-- Counting up. -/
def cnt1 (m : Nat) (j : Nat) : Option (Nat ⊕ (Nat ⊕ Unit)) := if j < m then some (.inl (j + 1)) else some (.inr (.inl j))
theorem cnt_loop (m : Nat) : ∀ k j : Nat, j + k = m → loopO (cnt1 m) j = some (.inl m)
  | 0, j, h => by
    have : j = m := by omega
    subst this
    exact loopO_inr (by simp [cnt1])
  | k + 1, j, h => by
    have h1 : cnt1 m j = some (.inl (j + 1)) := by unfold cnt1; rw [if_pos (by omega)]
    rw [loopO_inl h1]
    exact cnt_loop m k (j + 1) (by omega)
section
variable {P : Program} {n : Nat} {E : List (Nat × Value)} {z w : World} {L : Hp}
theorem pNo : PanicOk (fun _ _ _ => False) := fun _ _ _ _ _ h => h
/-- A range over the parts of a slice that is read. -/
theorem cRangeS {S : Type} {B t p q idA idR : Nat} {body : Code} {ops : List Oper} {fn : Func} {Rr : Ending → World → Prop} {gf : FuncId} {cap : List Value} {ok : World → Prop} {α : Type} {K : Kd α} {X : Hp} {A : Option Addr} {c k sz ty : Nat} {pos : String} {af : Array Edge} {xs : List α} {b : List α → S → Option S} {s0 y : S}
    (I : Hp → S → World → Prop) (H : foldO b (chL k xs) s0 = some y) (HF : Fits z w L) (hq : lv E (.tmp t) = some (.func (.func gf) #[] cap.toArray)) (hgf : IsF P gf) (hp : Nat.blt p n = true) (hqn : Nat.blt q n = true)
    (hit : IterC P gf cap ok (chV A xs.length k sz) (chN xs.length k)) (hr : RdS K X A c xs) (hk : 0 < k) (hsz : K.sz = sz)
    (h0 : ∀ M w', Fits z w' (M ++ L) → I M s0 w')
    (hmap : ∀ M M' s W W', I M s W → (∀ L', Fits z W (M ++ L') → Fits z W' (M' ++ L')) → I M' s W')
    (hfit : ∀ M s W, I M s W → ∃ L', Fits z W (M ++ L')) (hok : ∀ M s W, I M s W → ok W)
    (round : ∀ lr M s s' W (xc : List α) Ac cc, RdS K X Ac cc xc → I M s W → b xc s = some s' →
      WR P lr n body ((q, .slice Ac xc.length cc) :: (p, .slice Ac xc.length cc) :: E) W (Exit.then (fun _ W' => I M s' W') (fun _ _ _ => False)))
    (tail : ∀ D W, I [(D, .deferred (some []))] y W → WL P n [] ops E W (tailQ z P fn Rr D)) :
    WCT P n (.block B (.rangeFunc (.tmp t) #[p] (.region idA #[⟨some q, .assign (.tmp p), ty, pos, af, none⟩] false) body)) (.seq (.region idR ops.toArray false) .ret) E w (bodyPostM Fence.wide 0 P fn Rr) := by
  subst hsz
  refine cRange I H HF hq hgf hp hqn hit h0 hmap hfit hok (fun lr M s s' j W hI hj hb => ?_) tail
  have hjk := (chN_lt hk).1 hj
  have h1 := hr.cutM (lo := ((j * k : Nat) : Int)) (hi := ((min (j * k + k) xs.length : Nat) : Int)) (by omega) (by omega) (by omega)
  have h2 := round lr M s s' W (chAt k xs j) _ _ h1 hI hb
  have e : chV A xs.length k K.sz j = .slice (cutA A (((min (j * k + k) xs.length : Nat) : Int).toNat - ((j * k : Nat) : Int).toNat) (((j * k : Nat) : Int).toNat * K.sz)) (chAt k xs j).length (((min (j * k + k) xs.length : Nat) : Int).toNat - ((j * k : Nat) : Int).toNat) := by
    unfold chV chAt
    rw [len_cutL (by omega) (by omega) (by omega)]
    simp only [Int.toNat_natCast]
  rw [e]
  exact h2
end
end Go.Proofs.Ytjmkalkckpffiaa.Sp
