/- The walk's own rules for a range over a function, part 2: the statement itself, over an iterator that hands on the parts of a slice. -/
import Derived.Test.YtjmkalkckpffiaaRf1
import Derived.RangeFuncRecord
set_option linter.unusedVariables false
set_option linter.unusedSimpArgs false
namespace Go.Proofs.Ytjmkalkckpffiaa.Sp
open Go
/-! ### Deferred calls below those of an activation -/
def _root_.Go.Act.ad (a : Act) (ds : List Deferred) : Act := { a with defers := a.defers ++ ds }
theorem ad_eval (a : Act) (ds : List Deferred) : (a.ad ds).eval = a.eval := funext fun x => by cases x <;> rfl
theorem ad_put (a : Act) (ds : List Deferred) (dst : Option Tmp) (v : Value) : (a.ad ds).put dst v = (a.put dst v).ad ds := by cases dst <;> rfl
section
variable {P : Program} {ops : Array Oper} {Q : Exit → Act → World → Prop}
theorem ad_upon {Q' : Exit → Act → World → Prop} {o : Oper} {a : Act} {ds : List Deferred} (hQ : ∀ e a w, Q e a w → Q' e (Act.ad a ds) w) {nx nx' : Act → World → Prop} (hn : ∀ a w, nx a w → nx' (a.ad ds) w) : ∀ {r : Result Next}, o.upon P a nx Q r → o.upon P (a.ad ds) nx' Q' r := by
  intro r h
  cases r with
  | halt e w' =>
    cases e <;> first | exact hQ _ _ _ h | exact False.elim h
  | ok x w' =>
    cases x with
    | value v => simp only [Oper.upon] at h ⊢; rw [ad_put]; exact hn _ _ h
    | skip => simp only [Oper.upon] at h ⊢; rw [ad_put]; exact hn _ _ h
    | «defer» d =>
      simp only [Oper.upon] at h ⊢
      have e : ({ a.ad ds with defers := d :: (a.ad ds).defers } : Act) = ({ a with defers := d :: a.defers } : Act).ad ds := rfl
      rw [e, ad_put]; exact hn _ _ h
    | enter f args =>
      refine Calls.mono (h : Calls P f args w' _) ?_
      intro e w'' he
      cases e with
      | returned v => simp only at he ⊢; rw [ad_put]; exact hn _ _ he
      | panicked ch => exact hQ _ _ _ he
      | outgrown => obtain ⟨a1, w1, hq⟩ := he; exact ⟨a1.ad ds, w1, hQ _ _ _ hq⟩
    | row row args =>
      refine Rows.mono (h : Rows P row args w' _) ?_
      intro v w'' he
      show nx' ((a.ad ds).put o.dst v) w''
      rw [ad_put]; exact hn _ _ he
    | _ => exact False.elim h
theorem ad_list {Q' : Exit → Act → World → Prop} {ds : List Deferred} (hQ : ∀ e a w, Q e a w → Q' e (Act.ad a ds) w) : ∀ (l : List Oper) (a : Act) (w : World), wpList P ops Q l a w → wpList P ops Q' l (a.ad ds) w
  | [], a, w, h => hQ _ _ _ h
  | o :: l, a, w, h => by
    simp only [wpList] at h ⊢
    have ht : (a.ad ds).tmps = a.tmps := rfl
    rw [ht]
    by_cases hw : Region.wanted o (yielded ops a.tmps) = true
    · rw [if_pos hw] at h ⊢
      rcases h with h | ⟨h, a1, w1, hq⟩
      · left
        unfold Oper.wp at h ⊢
        rw [ad_eval]
        exact ad_upon hQ (fun a w h => ad_list hQ l a w h) h
      · right
        refine ⟨?_, a1.ad ds, w1, hQ _ _ _ hq⟩
        unfold Oper.asks at h ⊢
        rw [ad_eval]; exact h
    · rw [if_neg hw] at h ⊢
      rw [ad_put]; exact ad_list hQ l _ w h
end
/-! ### A function that ranges over functions: how it is entered, how it is left -/
theorem enterM {P : Program} {w : World} {f : FuncId} {fn : Func} {c : Code} {args : List Value} {Rr : Ending → World → Prop} (hf : P.funcs[f]? = some fn) (hb : fn.body = some c) {m : Nat} (hm : fn.ntmps = m) (hl : Nat.ble args.length m = true)
    {E : List (Nat × Value)} (hE : argE args = E) (h : WC P m c E w (bodyPostM Fence.wide 0 P fn Rr)) : Calls P f args.toArray w Rr := by
  refine callsIn_wide.1 (callsIn_of_wp_marks (n := 0) hf hb trivial (wpIn_wide.2 (h _ ⟨?_, rfl, fun i v hi => ?_⟩)))
  · have := Nat.le_of_ble_eq_true hl
    simp [hm]; omega
  · have := (lk_args args 0 E hE.symm i v hi).2
    have hlt : i < args.length := by simpa using (List.getElem?_eq_some_iff.1 this).1
    simp only [Nat.sub_zero] at this
    simp [Array.getElem?_append, hlt]
    exact (List.getElem?_eq_some_iff.1 this).2
/-- Two pieces of code, one behind the other. -/
def WCT (P : Program) (n : Nat) (y x : Code) (E : List (Nat × Value)) (w : World) (Q : Exit → Act → World → Prop) : Prop :=
  ∀ a, Env n E a → y.wp P (Exit.then (fun a w => x.wp P Q a w) Q) a w
theorem cSeqA {P : Program} {n : Nat} {E : List (Nat × Value)} {w : World} {Q : Exit → Act → World → Prop} {x y t : Code} (h : ∀ K : Act → World → Prop, (∀ E w, WCT P n y t E w Q → WK n E w K) → WC P n x E w (Exit.then K Q)) : WC P n (.seq (.seq x y) t) E w Q := fun a hE =>
  wp_seq (wp_seq (Code.wp_mono (fun e a w he => by cases e <;> exact he) (h (fun a w => y.wp P (Exit.then (fun a w => t.wp P Q a w) Q) a w) (fun E w hy a hE => hy a hE) a hE)))
/-! ### The parts of a slice -/
def chN (n : Nat) (k : Nat) : Nat := (n + k - 1) / k
def chAt {α : Type} (k : Nat) (xs : List α) (j : Nat) : List α := cutL xs ((j * k : Nat) : Int) ((min (j * k + k) xs.length : Nat) : Int)
def chL {α : Type} (k : Nat) (xs : List α) : List (List α) := (List.range (chN xs.length k)).map (chAt k xs)
def foldO {α S : Type} (b : α → S → Option S) : List α → S → Option S
  | [], s => some s
  | x :: t, s => (b x s).bind (foldO b t)
/-- What the iterator hands on as part j. -/
def chV (A : Option Addr) (len k sz j : Nat) : Value := .slice (cutA A (min (j * k + k) len - j * k) (j * k * sz)) (min (j * k + k) len - j * k) (min (j * k + k) len - j * k)
/-- An iterator that hands on values one by one, and leans on what 'ok' says of the world. -/
def IterC (P : Program) (gf : FuncId) (cap : List Value) (ok : World → Prop) (arg : Nat → Value) (cnt : Nat) : Prop :=
  ∀ (l : Nat) (J : Nat → World → Prop) (W : World), (∀ j W, J j W → J j { W with drawn := W.drawn + 1 }) → (∀ j W, J j W → ok W) →
    (∀ j W, J j W → j < cnt → YieldAt Fence.wide 0 P l #[arg j] W (fun e W' => e = .returned (.bool true) ∧ J (j + 1) W')) → J 0 W →
    CallsIn Fence.wide 0 P gf (.func (.yield l) #[] #[] :: cap).toArray W (fun e W' => (∃ v, e = .returned v) ∧ J cnt W')
section
variable {P : Program} {n : Nat} {E : List (Nat × Value)} {z w : World} {L : Hp}
theorem Fits.putHead {l : Nat} {o o' : Obj} (h : Fits z w ((l, o) :: L)) : Fits z (w.putObj l o') ((l, o') :: L) := by
  refine ⟨h.os, h.tape, h.output, by simpa using h.nodup, ?_⟩
  intro p hp
  have hl : l < w.heap.size := h.lt (List.mem_cons_self ..)
  rcases List.mem_cons.1 hp with rfl | hp
  · exact World.putObj_heap_same hl
  · have hne : p.1 ≠ l := by
      intro he
      have := h.nodup
      simp only [List.map_cons, List.nodup_cons, List.mem_map, not_exists, not_and] at this
      exact this.1 p hp he
    rw [World.putObj_heap_other hne]
    exact h.here p (List.mem_cons_of_mem _ hp)
/-- The end of a function that has ranged over one. -/
def tailQ (z : World) (P : Program) (fn : Func) (Rr : Ending → World → Prop) (D : Nat) : Exit → Act → World → Prop
  | .normal, a, w => a.defers = [] ∧ ∃ v, (∀ w', (results fn a.tmps).run P w' = .ok v w') ∧ ∃ L, Fits z w ((D, .deferred (some [])) :: L) ∧ ∀ w', Fits z w' L → Rr (.returned v) w'
  | _, _, _ => False
theorem tl1 {fn : Func} {k D : Nat} {v : Value} {Rr : Ending → World → Prop} (hr : fn.results = #[.tmp k]) (hv : lk E k = some v) (HF : Fits z w ((D, .deferred (some [])) :: L)) (h : ∀ w', Fits z w' L → Rr (.returned v) w') : WK n E w (tailQ z P fn Rr D .normal) := fun a hE => by
  refine ⟨hE.defers, v, fun w' => ?_, L, HF, h⟩
  rw [results_tmp hr]
  simp [hE.get k v hv]
theorem cRange {S : Type} {B t p q idA idR : Nat} {body : Code} {ops : List Oper} {fn : Func} {Rr : Ending → World → Prop} {gf : FuncId} {cap : List Value} {ok : World → Prop} {α : Type} {A : Option Addr} {k sz ty : Nat} {pos : String} {af : Array Edge} {xs : List α} {b : List α → S → Option S} {s0 y : S}
    (I : Hp → S → World → Prop) (H : foldO b (chL k xs) s0 = some y) (HF : Fits z w L) (hq : lv E (.tmp t) = some (.func (.func gf) #[] cap.toArray)) (hgf : IsF P gf) (hp : Nat.blt p n = true) (hqn : Nat.blt q n = true)
    (hit : IterC P gf cap ok (chV A xs.length k sz) (chN xs.length k))
    (h0 : ∀ M w', Fits z w' (M ++ L) → I M s0 w')
    (hmap : ∀ M M' s W W', I M s W → (∀ L', Fits z W (M ++ L') → Fits z W' (M' ++ L')) → I M' s W')
    (hfit : ∀ M s W, I M s W → ∃ L', Fits z W (M ++ L')) (hok : ∀ M s W, I M s W → ok W)
    (round : ∀ lr M s s' j W, I M s W → j < chN xs.length k → b (chAt k xs j) s = some s' →
      WR P lr n body ((q, chV A xs.length k sz j) :: (p, chV A xs.length k sz j) :: E) W (Exit.then (fun _ W' => I M s' W') (fun _ _ _ => False)))
    (tail : ∀ D W, I [(D, .deferred (some []))] y W → WL P n [] ops E W (tailQ z P fn Rr D)) :
    WCT P n (.block B (.rangeFunc (.tmp t) #[p] (.region idA #[⟨some q, .assign (.tmp p), ty, pos, af, none⟩] false) body)) (.seq (.region idR ops.toArray false) .ret) E w (bodyPostM Fence.wide 0 P fn Rr) := by
  intro a hE
  refine wp_block ((wpIn_wide (n := 0)).1 (wpIn_rangeFunc fun fid hfid => ?_))
  obtain ⟨rec, hrec⟩ : ∃ rec : LoopState → Option Code → Loop, rec = fun st pe => { state := st, pending := pe, fn := fid, tmps := a.tmps, params := #[p], assign := .region idA #[⟨some q, .assign (.tmp p), ty, pos, af, none⟩] false, body := body, defers := w.heap.size } := ⟨_, rfl⟩
  have hst : ∀ st pe, (rec st pe).state = st := by intro st pe; rw [hrec]
  have hpe : ∀ st pe, (rec st pe).pending = pe := by intro st pe; rw [hrec]
  have hwith : ∀ st pe st' pe', ({ rec st pe with state := st', pending := pe' } : Loop) = rec st' pe' := by intro st pe st' pe'; rw [hrec]
  have hwith2 : ∀ st pe st', ({ rec st pe with state := st' } : Loop) = rec st' pe := by intro st pe st'; rw [hrec]
  obtain ⟨W1, hW1⟩ : ∃ W1 : World, (w.alloc (.deferred (some []))).alloc (.loop (rec .ready none)) = W1 := ⟨_, rfl⟩
  refine ⟨w.heap.size + 1, [{ target := .collected w.heap.size, args := #[] }], W1, { target := .fn (.func gf) cap.toArray, args := #[.func (.yield (w.heap.size + 1)) #[] #[]] }, W1, gf, (.func (.yield (w.heap.size + 1)) #[] #[] :: cap).toArray, W1, ?_, ?_, fun f' hf' => trivial, ?_, (fun hd => by simp [Fence.wide] at hd), ?_⟩
  · rw [← hW1, hrec]; exact run_enterLoop_outer _ _ _ _ _
  · simp only [resolve, hE.ev hq]
    simp [go_sem]
  · have e1 : (#[.func (.yield (w.heap.size + 1)) #[] #[]] ++ cap.toArray : Array Value) = (.func (.yield (w.heap.size + 1)) #[] #[] :: cap).toArray := by simp
    have e2 := hgf (.func (.yield (w.heap.size + 1)) #[] #[] :: cap).toArray W1
    simp only [invoke]
    rw [← e2, ← e1]
  · -- the rounds
    have hD : (w.alloc (.deferred (some []))).heap.size = w.heap.size + 1 := by simp
    have HF1 : Fits z W1 ([(w.heap.size + 1, .loop (rec .ready none)), (w.heap.size, .deferred (some []))] ++ L) := by
      have h1 := (HF.alloc (.deferred (some []))).alloc (.loop (rec .ready none))
      rw [hD, hW1] at h1
      exact h1
    obtain ⟨lr, hlr⟩ : ∃ lr, lr = w.heap.size + 1 := ⟨_, rfl⟩
    obtain ⟨D, hDD⟩ : ∃ D, D = w.heap.size := ⟨_, rfl⟩
    rw [← hlr, ← hDD] at HF1 ⊢
    refine (hit lr (fun j W => ∃ s, foldO b ((chL k xs).drop j) s = some y ∧ I [(lr, .loop (rec .ready none)), (D, .deferred (some []))] s W) _ ?_ ?_ ?_ ⟨s0, by simpa using H, h0 _ _ HF1⟩).mono ?_
    · rintro j W ⟨s, h1, h2⟩
      exact ⟨s, h1, hmap _ _ _ _ _ h2 (fun L' h => h.draw)⟩
    · rintro j W ⟨s, h1, h2⟩
      exact hok _ _ _ h2
    · rintro j W ⟨s, h1, h2⟩ hj
      obtain ⟨L', hfl⟩ := hfit _ _ _ h2
      have hl : W.heap[lr]? = some (.loop (rec .ready none)) := hfl.here (lr, _) (List.mem_cons_self ..)
      have hlen : (chL k xs).length = chN xs.length k := by simp [chL]
      have hdrop : (chL k xs).drop j = chAt k xs j :: (chL k xs).drop (j + 1) := by
        have hj' : j < (chL k xs).length := by rw [hlen]; exact hj
        have hg : (chL k xs)[j]'hj' = chAt k xs j := by simp [chL]
        rw [List.drop_eq_getElem_cons hj', hg]
      rw [hdrop] at h1
      obtain ⟨s', hb, hrest⟩ := Option.bind_eq_some_iff.1 h1
      have hy := run_yield (P := P) (args := #[chV A xs.length k sz j]) hl (by rw [hrec]; rfl)
      have hps : (rec .ready none).params = #[p] := by rw [hrec]
      have has : (rec .ready none).assign = .region idA [⟨some q, .assign (.tmp p), ty, pos, af, none⟩].toArray false := by rw [hrec]
      have hbo : (rec .ready none).body = body := by rw [hrec]
      have htm : (rec .ready none).tmps = a.tmps := by rw [hrec]
      have hfn : (rec .ready none).fn = fid := by rw [hrec]
      rw [hps, has, hbo, htm, hfn] at hy
      refine ⟨fid, _, _, _, hy, roundIn_of_wpIn trivial ?_⟩
      have hE1 : Env n ((p, chV A xs.length k sz j) :: E) { tmps := (#[p].zip #[chV A xs.length k sz j]).foldl (fun tmps (t, a) => tmps.setIfInBounds t a) a.tmps, defers := [] } := by
        have h3 := hE.put hp (chV A xs.length k sz j)
        have e2 : (#[p].zip #[chV A xs.length k sz j]).foldl (fun tmps (t, a) => tmps.setIfInBounds t a) a.tmps = (a.put (some p) (chV A xs.length k sz j)).tmps := by simp [Act.put]
        rw [e2]
        exact ⟨h3.size, rfl, h3.get⟩
      refine (rRgn (lr := lr) [] trivial rfl (sL (v := chV A xs.length k sz j) (asg (by simp only [lv, lk, Nat.beq_refl])) hqn (lEnd (K := fun _ _ => True) ?_))) (fun a w h => h) _ hE1
      intro a1 hE2
      have hbr := run_beginRound (P := P) hl (hst .ready none)
      rw [hwith2] at hbr
      refine ⟨_, hbr, ?_⟩
      have h2b := hmap _ [(lr, .loop (rec .busy none)), (D, .deferred (some []))] _ _ _ h2 (fun L' h => h.putHead (o' := .loop (rec .busy none)))
      have hrd := round lr _ s s' j _ h2b hj hb (by intro a w h; exact h) a1 hE2
      refine wpIn_mono hrd ?_
      intro e a3 W3 he
      cases e with
      | normal =>
        obtain ⟨L3, hf3⟩ := hfit _ _ _ he
        have hl3 : W3.heap[lr]? = some (.loop (rec .busy none)) := hf3.here (lr, _) (List.mem_cons_self ..)
        have her := run_endRound (P := P) none hl3
        rw [hwith] at her
        refine ⟨_, _, her, rfl, s', hrest, ?_⟩
        exact hmap _ _ _ _ _ he (fun L' h => h.putHead)
      | _ => exact False.elim he
    · rintro e W2 ⟨⟨v, rfl⟩, s, h1, h2⟩
      obtain ⟨L', hfl⟩ := hfit _ _ _ h2
      have hl : W2.heap[lr]? = some (.loop (rec .ready none)) := hfl.here (lr, _) (List.mem_cons_self ..)
      have hlen : (chL k xs).length = chN xs.length k := by simp [chL]
      have hnil : (chL k xs).drop (chN xs.length k) = [] := by rw [← hlen]; simp
      rw [hnil] at h1
      obtain rfl := Option.some.inj h1
      have hel : (Instr.endLoop lr).run P W2 = .ok none (W2.putObj lr (.loop (rec .exhausted none))) := by
        have h9 := run_endLoop (P := P) hl (by rw [hst]; simp)
        rw [hrec] at h9 ⊢
        exact h9
      refine ⟨none, _, hel, ?_⟩
      have h4 := hmap _ [(D, .deferred (some []))] _ _ _ h2 (fun L' h => Fits.drop1 (h.putHead (o' := .loop (rec .exhausted none))))
      have h5 := tail D _ h4
      refine wp_seq (wp_region_lit ?_)
      have e3 : a.ad [{ target := .collected D, args := #[] }] = { a with defers := [{ target := .collected D, args := #[] }] ++ a.defers } := by
        unfold Act.ad
        rw [hE.defers]
        rfl
      rw [← e3]
      refine ad_list ?_ _ _ _ (h5 ops.toArray a trivial hE)
      intro e a5 W4 hq4
      cases e with
      | normal =>
        obtain ⟨hd5, v5, hres, L5, hf5, hR⟩ := hq4
        refine wp_ret ?_
        have hh : W4.heap[D]? = some (.deferred (some [])) := hf5.here (D, _) (List.mem_cons_self ..)
        show LeavesInM Fence.wide 0 P fn a5.tmps Rr (a5.defers ++ [{ target := .collected D, args := #[] }]) .returning W4
        rw [hd5]
        exact ⟨by simp, .inl ⟨D, _, rfl, run_takeDeferred hh, v5, hres _, hR _ (Fits.drop1 (hf5.putHead (o' := .deferred none)))⟩⟩
      | _ => exact False.elim hq4
end
end Go.Proofs.Ytjmkalkckpffiaa.Sp
