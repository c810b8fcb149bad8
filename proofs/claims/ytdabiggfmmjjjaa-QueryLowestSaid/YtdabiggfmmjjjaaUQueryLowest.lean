/- The plain part of QueryLowest: of askers that hear one another the lowest asks. -/
import Derived.Test.YtdabiggfmmjjjaaR
import Derived.Test.YtdabiggfmmjjjaaPl
set_option linter.unusedVariables false
namespace Go.Proofs.Ytdabiggfmmjjjaa
open Go Go.Proofs.Ytdabiggfmmjjjaa.Sp

/-- All k askers are there, with their addresses; of number m it holds Q m. -/
def Al (k : Nat) (ad : Nat → Int) (Q : Nat → T_query_Asker → Prop) (xs : List (Option T_query_Asker)) : Prop :=
  xs.length = k ∧ ∀ m, m < k → ∃ x, xs[m]? = some (some x) ∧ x.f_addr = ad m ∧ Q m x
variable {k : Nat} {ad : Nat → Int} {Q Q' : Nat → T_query_Asker → Prop} {xs : List (Option T_query_Asker)}
theorem Al.rd (h : Al k ad Q xs) {m : Nat} (hm : m < k) : ∃ x, Sp.rd xs (m : Int) = some x ∧ x.f_addr = ad m ∧ Q m x := by
  obtain ⟨x, h1, h2, h3⟩ := h.2 m hm
  exact ⟨x, by simp [Sp.rd, List.getD_eq_getElem?_getD, h1], h2, h3⟩
theorem Al.mono (h : Al k ad Q xs) (hq : ∀ m x, m < k → Q m x → Q' m x) : Al k ad Q' xs :=
  ⟨h.1, fun m hm => by obtain ⟨x, h1, h2, h3⟩ := h.2 m hm; exact ⟨x, h1, h2, hq m x hm h3⟩⟩
theorem Al.set (h : Al k ad Q xs) {i : Nat} {x' : T_query_Asker} (ha : x'.f_addr = ad i) (hi : Q' i x') (hq : ∀ m x, m < k → m ≠ i → Q m x → Q' m x) : Al k ad Q' (setI xs (i : Int) (some x')) := by
  refine ⟨by rw [len_setI]; exact h.1, fun m hm => ?_⟩
  have e : ((i : Int)).toNat = i := by simp
  by_cases hmi : m = i
  · subst hmi
    exact ⟨x', by rw [setI, e, List.getElem?_set_self (by rw [h.1]; exact hm)], ha, hi⟩
  · obtain ⟨x, h1, h2, h3⟩ := h.2 m hm
    exact ⟨x, by rw [setI, e, List.getElem?_set_ne (Ne.symm hmi)]; exact h1, h2, hq m x hm hmi h3⟩
/-- What is heard. -/
def heard (x : T_query_Asker) (from_ : Int) : T_query_Asker := if 0 < from_ ∧ from_ < x.f_addr then ⟨x.f_addr, false, 54, x.f_starts⟩ else x
theorem heard_eq (x : T_query_Asker) (f : Int) : f_query_Asker_Heard_obj x f = some ((heard x f).f_asks, (heard x f).f_left) := by
  unfold f_query_Asker_Heard_obj heard
  by_cases h1 : 0 < f
  · by_cases h2 : f < x.f_addr
    · simp [h1, h2]
    · simp [h1, h2]
  · simp [h1]
theorem heard_addr (x : T_query_Asker) (f : Int) : (heard x f).f_addr = x.f_addr := by unfold heard; split <;> rfl
theorem heard_starts (x : T_query_Asker) (f : Int) : (heard x f).f_starts = x.f_starts := by unfold heard; split <;> rfl
/-- A query goes to all others. -/
theorem bc (hk : k ≤ 8) (s2 : (List (Option T_query_Asker)) × (List Int) × Int) (i : Nat) (ys : List (Option T_query_Asker)) (hi : i < k) (hl : s2.2.1.length = k) (hf : Sp.rd s2.2.1 (i : Int) = ad i)
    (hself : ∀ x, Q i x → Q' i x) (hoth : ∀ m x, m < k → m ≠ i → x.f_addr = ad m → Q m x → Q' m (heard x (ad i))) (h : Al k ad Q xs) :
    ∃ xs', loopO (f_plenumlaw20_QueryLowest.b2 s2 ((i : Int), ys)) (0, xs) = some (.inl ((k : Int), xs')) ∧ Al k ad Q' xs' := by
  obtain ⟨r, h1, h2⟩ := loop_ends (f_plenumlaw20_QueryLowest.b2 s2 ((i : Int), ys))
    (fun s => ∃ c : Nat, s.1 = (c : Int) ∧ c ≤ k ∧ Al k ad (fun m x => (m < c → Q' m x) ∧ (c ≤ m → Q m x)) s.2)
    (fun r => ∃ xs', r = .inl ((k : Int), xs') ∧ Al k ad Q' xs')
    (fun s => k - s.1.toNat)
    (by
      rintro ⟨c0, zs⟩ ⟨c, rfl, hc, ha⟩
      simp only at ha
      by_cases hck : c < k
      · left
        have e1 : ((c : Int) < (zs.length : Int)) := by rw [ha.1]; omega
        by_cases hci : c = i
        · subst hci
          refine ⟨((c : Int) + 1, zs), ?_, ⟨c + 1, by simp, by omega, ha.mono fun m x hm ⟨q1, q2⟩ => ⟨fun hlt => ?_, fun hle => q2 (by omega)⟩⟩, by simp; omega⟩
          · simp only [f_plenumlaw20_QueryLowest.b2, if_pos e1, if_true]
            rw [w64 (by omega) (by omega)]
          · by_cases hmc : m = c
            · subst hmc; exact hself x (q2 (Nat.le_refl _))
            · exact q1 (by omega)
        · obtain ⟨x, hx, hxa, hq⟩ := ha.rd hck
          have ne : ¬ ((c : Int) = (i : Int)) := by omega
          have e2 : (i : Int) < (s2.2.1.length : Int) := by rw [hl]; omega
          refine ⟨((c : Int) + 1, setI zs (c : Int) (some (heard x (ad i)))), ?_, ⟨c + 1, by simp, by omega, ha.set (by rw [heard_addr]; exact hxa) ⟨fun _ => hoth c x hck hci hxa (hq.2 (Nat.le_refl _)), fun hle => by omega⟩ fun m x hm hmc ⟨q1, q2⟩ => ⟨fun hlt => q1 (by omega), fun hle => q2 (by omega)⟩⟩, by simp; omega⟩
          simp only [f_plenumlaw20_QueryLowest.b2, if_pos e1, if_neg ne]
          rw [if_pos (by omega), if_pos (by omega), if_pos e2, hx]
          simp only [optE, hf, heard_eq, Option.bind_some]
          rw [w64 (by omega) (by omega)]
          congr 4
          have := heard_addr x (ad i)
          have := heard_starts x (ad i)
          cases hh : heard x (ad i)
          simp_all
      · right
        have e1 : ¬ ((c : Int) < (zs.length : Int)) := by rw [ha.1]; omega
        have hck' : c = k := by omega
        subst hck'
        exact ⟨_, by simp only [f_plenumlaw20_QueryLowest.b2, if_neg e1], zs, rfl, ha.mono fun m x hm q => q.1 hm⟩)
    (0, xs) ⟨0, rfl, Nat.zero_le _, h.mono fun m x hm q => ⟨fun hlt => by omega, fun _ => q⟩⟩
  obtain ⟨xs', rfl, h3⟩ := h2
  exact ⟨xs', h1, h3⟩
/-! ### One asker's tick -/
def lives (x : T_query_Asker) : Prop := 1 ≤ x.f_left ∧ x.f_left ≤ 54
theorem tick_wait {x : T_query_Asker} (h0 : 1 < x.f_left) (h1 : x.f_left ≤ 54) : f_query_Asker_Tick_obj x = some (false, x.f_asks, x.f_left - 1, x.f_starts) := by
  unfold f_query_Asker_Tick_obj
  rw [w64 (by omega) (by omega), if_pos (by omega)]
theorem tick_fire {x : T_query_Asker} (h : x.f_left = 1) : ∃ l s, f_query_Asker_Tick_obj x = some (true, true, l, s) ∧ 1 ≤ l ∧ l ≤ 25 := by
  unfold f_query_Asker_Tick_obj
  rw [h, w64 (by omega) (by omega), if_neg (by omega)]
  cases hx : x.f_asks
  · simp
  · by_cases h1 : 0 < x.f_starts
    · by_cases h2 : 0 < IntKind.i64.wrap (x.f_starts - 1)
      · simp [h1, h2]
      · simp [h1, h2]
    · simp [h1]
theorem tick_any {x : T_query_Asker} (h : lives x) : ∃ q a l s, f_query_Asker_Tick_obj x = some (q, a, l, s) ∧ 1 ≤ l ∧ l ≤ 54 := by
  obtain ⟨h0, h1⟩ := h
  by_cases h2 : 1 < x.f_left
  · exact ⟨_, _, _, _, tick_wait h2 h1, by omega, by omega⟩
  · obtain ⟨l, s, h3, h4, h5⟩ := tick_fire (x := x) (by omega)
    exact ⟨_, _, _, _, h3, h4, by omega⟩

/-! ### A round of all -/
section
variable {p : Nat} {dead : Int} {L : Int}
/-- p leads; it is c's turn. -/
def MR (p : Nat) (dead : Int) (c : Nat) (L : Int) (m : Nat) (x : T_query_Asker) : Prop :=
  lives x ∧ (m = p → x.f_asks = true ∧ x.f_left = L) ∧ (m ≠ p → (m : Int) ≠ dead → x.f_asks = false ∧ L + (if m < c then 1 else 2) + (if p < c then 1 else 0) ≤ x.f_left)
/-- p will lead once its time is over; it is c's turn. -/
def MP (p : Nat) (c : Nat) (L : Int) (m : Nat) (x : T_query_Asker) : Prop :=
  lives x ∧ (m = p → x.f_left = L - (if p < c then 1 else 0))
/-- What one asker's turn leaves. -/
def After (k : Nat) (ad : Nat → Int) (s2 : (List (Option T_query_Asker)) × (List Int) × Int) (dead : Int) (c : Nat) (xs : List (Option T_query_Asker)) (Post : List (Option T_query_Asker) → Prop) : Prop :=
  ∃ xs', f_plenumlaw20_QueryLowest.b3 s2 dead ((c : Int), xs) = some (.inl ((c : Int) + 1, xs')) ∧ Post xs'
variable {s2 : (List (Option T_query_Asker)) × (List Int) × Int} {Post : List (Option T_query_Asker) → Prop} {c : Nat}
theorem turn_dead (hk : k ≤ 8) (hc : c < k) (hl : xs.length = k) (hd : (c : Int) = dead) (h : Post xs) : After k ad s2 dead c xs Post := by
  refine ⟨xs, ?_, h⟩
  have e1 : (c : Int) < (xs.length : Int) := by omega
  simp only [f_plenumlaw20_QueryLowest.b3, if_pos e1, if_pos hd, Option.bind_some, if_true]
  rw [w64 (by omega) (by omega)]
theorem turn_quiet (hk : k ≤ 8) (hc : c < k) (hl : xs.length = k) (hd : (c : Int) ≠ dead) {x : T_query_Asker} (hx : Sp.rd xs (c : Int) = some x) {a : Bool} {l s : Int} (ht : f_query_Asker_Tick_obj x = some (false, a, l, s)) (h : Post (setI xs (c : Int) (some ⟨x.f_addr, a, l, s⟩))) : After k ad s2 dead c xs Post := by
  refine ⟨_, ?_, h⟩
  have e1 : (c : Int) < (xs.length : Int) := by omega
  simp only [f_plenumlaw20_QueryLowest.b3, if_pos e1, if_neg hd]
  rw [if_pos (by omega), hx]
  simp only [optE, ht, Option.bind_some, Bool.not_false, if_true]
  rw [w64 (by omega) (by omega)]
theorem turn_asks (hk : k ≤ 8) (hc : c < k) (hl : xs.length = k) (hd : (c : Int) ≠ dead) {x : T_query_Asker} (hx : Sp.rd xs (c : Int) = some x) {a : Bool} {l s : Int} (ht : f_query_Asker_Tick_obj x = some (true, a, l, s))
    (h : ∀ ys, ∃ xs', loopO (f_plenumlaw20_QueryLowest.b2 s2 ((c : Int), ys)) (0, setI xs (c : Int) (some ⟨x.f_addr, a, l, s⟩)) = some (.inl ((k : Int), xs')) ∧ Post xs') : After k ad s2 dead c xs Post := by
  obtain ⟨xs', h1, h2⟩ := h xs
  refine ⟨xs', ?_, h2⟩
  have e1 : (c : Int) < (xs.length : Int) := by omega
  simp only [f_plenumlaw20_QueryLowest.b3, if_pos e1, if_neg hd]
  rw [if_pos (by omega), hx]
  simp only [optE, ht, Option.bind_some, Bool.not_true, Bool.false_eq_true, if_false]
  rw [h1]
  simp only [Option.bind_some]
  rw [w64 (by omega) (by omega)]
/-- What holds of k askers with unlike addresses, of which p's is the lowest of those that live. -/
structure Low (k : Nat) (ad : Nat → Int) (s2 : (List (Option T_query_Asker)) × (List Int) × Int) (dead : Int) (p : Nat) : Prop where
  k8 : k ≤ 8
  len : s2.2.1.length = k
  adr : ∀ m, m < k → Sp.rd s2.2.1 (m : Int) = ad m
  pos : ∀ m, m < k → 0 < ad m
  pk : p < k
  live : (p : Int) ≠ dead
  low : ∀ m, m < k → m ≠ p → (m : Int) ≠ dead → ad p < ad m
theorem heard_lives {x : T_query_Asker} {f : Int} (h : lives x) : lives (heard x f) := by
  unfold heard; split
  · exact ⟨by simp, by simp⟩
  · exact h
theorem heard_low {x : T_query_Asker} {f : Int} (h0 : 0 < f) (h1 : f < x.f_addr) : heard x f = ⟨x.f_addr, false, 54, x.f_starts⟩ := by unfold heard; rw [if_pos ⟨h0, h1⟩]
theorem heard_high {x : T_query_Asker} {f : Int} (h1 : ¬ f < x.f_addr) : heard x f = x := by unfold heard; rw [if_neg (fun h => h1 h.2)]
/-- p asks, and is heard by all. -/
theorem fire (W : Low k ad s2 dead p) {c : Nat} (hcp : c = p) (h : Al k ad (fun m x => lives x) xs) {x : T_query_Asker} (hx : Sp.rd xs (c : Int) = some x) (hxa : x.f_addr = ad c) (h1 : x.f_left = 1) : After k ad s2 dead c xs (fun xs' => ∃ L', 1 ≤ L' ∧ L' ≤ 25 ∧ Al k ad (MR p dead (c + 1) L') xs') := by
  subst hcp
  obtain ⟨l, s, ht, hl1, hl2⟩ := tick_fire h1
  refine turn_asks W.k8 W.pk h.1 W.live hx ht fun ys => ?_
  have hset : Al k ad (fun m x => lives x ∧ (m = c → x.f_asks = true ∧ x.f_left = l)) (setI xs (c : Int) (some ⟨x.f_addr, true, l, s⟩)) :=
    h.set hxa ⟨⟨hl1, by simp only; omega⟩, fun _ => ⟨rfl, rfl⟩⟩ fun m x hm hmc q => ⟨q, fun e => absurd e hmc⟩
  obtain ⟨xs', h3, h4⟩ := bc (Q' := MR c dead (c + 1) l) W.k8 s2 c ys W.pk W.len (W.adr c W.pk)
    (fun x ⟨q1, q2⟩ => ⟨q1, fun _ => q2 rfl, fun e => absurd rfl e⟩)
    (fun m x hm hmc hxa q => ⟨heard_lives q.1, fun e => absurd e hmc, fun _ hd => by
      rw [heard_low (W.pos c W.pk) (by rw [hxa]; exact W.low m hm hmc hd)]
      refine ⟨rfl, ?_⟩
      simp only
      split <;> split <;> omega⟩) hset
  exact ⟨xs', h3, l, hl1, hl2, h4⟩
theorem turn_R (W : Low k ad s2 dead p) (hL0 : 1 ≤ L) (hL1 : L ≤ 25) {c : Nat} (hc : c < k) (h : Al k ad (MR p dead c L) xs) : After k ad s2 dead c xs (fun xs' => ∃ L', 1 ≤ L' ∧ L' ≤ 25 ∧ Al k ad (MR p dead (c + 1) L') xs') := by
  by_cases hd : (c : Int) = dead
  · refine turn_dead W.k8 hc h.1 hd ⟨L, hL0, hL1, h.mono fun m x hm ⟨q1, q2, q3⟩ => ⟨q1, q2, fun hmp hmd => ?_⟩⟩
    have hcp : c ≠ p := fun e => W.live (by rw [← e]; exact hd)
    have hmc : m ≠ c := fun e => hmd (by rw [e]; exact hd)
    obtain ⟨r1, r2⟩ := q3 hmp hmd
    refine ⟨r1, ?_⟩
    have e1 : (m < c + 1) ↔ (m < c) := by omega
    have e2 : (p < c + 1) ↔ (p < c) := by omega
    simp only [e1, e2]; exact r2
  · obtain ⟨x, hx, hxa, q1, q2, q3⟩ := h.rd hc
    by_cases hcp : c = p
    · obtain ⟨r1, r2⟩ := q2 hcp
      by_cases hL : L = 1
      · exact fire W hcp (h.mono fun m x hm q => q.1) hx hxa (by rw [r2, hL])
      · refine turn_quiet W.k8 hc h.1 hd hx (tick_wait (by omega) q1.2) ⟨L - 1, by omega, by omega, h.set hxa ⟨⟨by simp only; omega, by simp only; have := q1.2; omega⟩, fun _ => ⟨r1, by simp only; omega⟩, fun e => absurd hcp e⟩ fun m y hm hmc ⟨s1, s2', s3⟩ => ⟨s1, fun e => absurd (e.trans hcp.symm) hmc, fun hmp hmd => ?_⟩⟩
        obtain ⟨u1, u2⟩ := s3 hmp hmd
        refine ⟨u1, ?_⟩
        subst hcp
        rw [if_pos (Nat.lt_succ_self c)]
        rw [if_neg (Nat.lt_irrefl c)] at u2
        by_cases hm1 : m < c
        · rw [if_pos (by omega)]; rw [if_pos hm1] at u2; omega
        · rw [if_neg (by omega)]; rw [if_neg hm1] at u2; omega
    · obtain ⟨r1, r2⟩ := q3 hcp hd
      rw [if_neg (Nat.lt_irrefl c)] at r2
      have hge : 3 ≤ x.f_left := by split at r2 <;> omega
      refine turn_quiet W.k8 hc h.1 hd hx (tick_wait (by omega) q1.2) ⟨L, hL0, hL1, h.set hxa ⟨⟨by simp only; omega, by simp only; have := q1.2; omega⟩, fun e => absurd e hcp, fun _ _ => ⟨r1, ?_⟩⟩ fun m y hm hmc ⟨s1, s2', s3⟩ => ⟨s1, s2', fun hmp hmd => ?_⟩⟩
      · simp only
        rw [if_pos (Nat.lt_succ_self c)]
        have e2 : (p < c + 1) ↔ (p < c) := by omega
        simp only [e2]; omega
      · obtain ⟨u1, u2⟩ := s3 hmp hmd
        refine ⟨u1, ?_⟩
        have e1 : (m < c + 1) ↔ (m < c) := by omega
        have e2 : (p < c + 1) ↔ (p < c) := by omega
        simp only [e1, e2]; exact u2
theorem turn_P (W : Low k ad s2 dead p) (hL0 : 1 ≤ L) {c : Nat} (hcL : p < c → 2 ≤ L) (hc : c < k) (h : Al k ad (MP p c L) xs) :
    After k ad s2 dead c xs (fun xs' => ((p < c + 1 → 2 ≤ L) ∧ Al k ad (MP p (c + 1) L) xs') ∨ (p < c + 1 ∧ ∃ L', 1 ≤ L' ∧ L' ≤ 25 ∧ Al k ad (MR p dead (c + 1) L') xs')) := by
  by_cases hd : (c : Int) = dead
  · have hcp : c ≠ p := fun e => W.live (by rw [← e]; exact hd)
    refine turn_dead W.k8 hc h.1 hd (.inl ⟨fun h => hcL (by omega), h.mono fun m x hm ⟨q1, q2⟩ => ⟨q1, fun e => ?_⟩⟩)
    have e2 : (p < c + 1) ↔ (p < c) := by omega
    simp only [e2]; exact q2 e
  · obtain ⟨x, hx, hxa, q1, q2⟩ := h.rd hc
    by_cases hcp : c = p
    · have r2 := q2 hcp
      rw [if_neg (by omega)] at r2
      by_cases hL : L = 1
      · obtain ⟨xs', h1, h2⟩ := fire W hcp (h.mono fun m x hm q => q.1) hx hxa (by omega)
        exact ⟨xs', h1, .inr ⟨by omega, h2⟩⟩
      · refine turn_quiet W.k8 hc h.1 hd hx (tick_wait (by omega) q1.2) (.inl ⟨fun _ => by omega, h.set hxa ⟨⟨by simp only; omega, by simp only; have := q1.2; omega⟩, fun _ => by simp only; rw [if_pos (by omega)]; omega⟩ fun m y hm hmc ⟨s1, s2'⟩ => ⟨s1, fun e => absurd (e.trans hcp.symm) hmc⟩⟩)
    · have e2 : (p < c + 1) ↔ (p < c) := by omega
      obtain ⟨q, a, l, s, ht, hl1, hl2⟩ := tick_any q1
      have hset : Al k ad (MP p (c + 1) L) (setI xs (c : Int) (some ⟨x.f_addr, a, l, s⟩)) := h.set hxa ⟨⟨hl1, hl2⟩, fun e => absurd e hcp⟩ fun m y hm hmc ⟨s1, s2'⟩ => ⟨s1, fun e => by simp only [e2]; exact s2' e⟩
      cases q with
      | false => exact turn_quiet W.k8 hc h.1 hd hx ht (.inl ⟨fun h => hcL (by omega), hset⟩)
      | true =>
        refine turn_asks W.k8 hc h.1 hd hx ht fun ys => ?_
        obtain ⟨xs', h3, h4⟩ := bc (Q' := MP p (c + 1) L) W.k8 s2 c ys hc W.len (W.adr c hc) (fun x q => q)
          (fun m y hm hmc hya q => ⟨heard_lives q.1, fun e => by
            subst e
            rw [heard_high (by rw [hya]; have := W.low c hc hcp hd; omega)]
            exact q.2 rfl⟩) hset
        exact ⟨xs', h3, .inl ⟨fun h => hcL (by omega), h4⟩⟩
theorem round_R (W : Low k ad s2 dead p) (hL0 : 1 ≤ L) (hL1 : L ≤ 25) (h : Al k ad (MR p dead 0 L) xs) :
    ∃ xs', loopO (f_plenumlaw20_QueryLowest.b3 s2 dead) (0, xs) = some (.inl ((k : Int), xs')) ∧ ∃ L', 1 ≤ L' ∧ L' ≤ 25 ∧ Al k ad (MR p dead 0 L') xs' := by
  have h8 := W.k8
  obtain ⟨r, h1, h2⟩ := loop_ends (f_plenumlaw20_QueryLowest.b3 s2 dead)
    (fun s => ∃ c : Nat, s.1 = (c : Int) ∧ c ≤ k ∧ ∃ L', 1 ≤ L' ∧ L' ≤ 25 ∧ Al k ad (MR p dead c L') s.2)
    (fun r => ∃ xs', r = .inl ((k : Int), xs') ∧ ∃ L', 1 ≤ L' ∧ L' ≤ 25 ∧ Al k ad (MR p dead 0 L') xs')
    (fun s => k - s.1.toNat)
    (by
      rintro ⟨c0, zs⟩ ⟨c, rfl, hc, L', g0, g1, ha⟩
      simp only at ha
      by_cases hck : c < k
      · left
        obtain ⟨xs', e1, L2, g2, g3, e2⟩ := turn_R W g0 g1 hck ha
        exact ⟨_, e1, ⟨c + 1, by simp, by omega, L2, g2, g3, e2⟩, by simp; omega⟩
      · right
        have e1 : ¬ ((c : Int) < (zs.length : Int)) := by rw [ha.1]; omega
        have hck' : c = k := by omega
        subst hck'
        refine ⟨_, by simp only [f_plenumlaw20_QueryLowest.b3, if_neg e1], zs, rfl, L', g0, g1, ha.mono fun m x hm ⟨q1, q2, q3⟩ => ⟨q1, q2, fun a b => ⟨(q3 a b).1, ?_⟩⟩⟩
        have := (q3 a b).2
        have hp := W.pk
        rw [if_pos hm, if_pos hp] at this
        rw [if_neg (by omega), if_neg (by omega)]
        omega)
    (0, xs) ⟨0, rfl, Nat.zero_le _, L, hL0, hL1, h⟩
  obtain ⟨xs', rfl, h3⟩ := h2
  exact ⟨xs', h1, h3⟩
theorem round_P (W : Low k ad s2 dead p) (hL0 : 1 ≤ L) (h : Al k ad (MP p 0 L) xs) :
    ∃ xs', loopO (f_plenumlaw20_QueryLowest.b3 s2 dead) (0, xs) = some (.inl ((k : Int), xs')) ∧ ((2 ≤ L ∧ Al k ad (MP p 0 (L - 1)) xs') ∨ ∃ L', 1 ≤ L' ∧ L' ≤ 25 ∧ Al k ad (MR p dead 0 L') xs') := by
  have h8 := W.k8
  have hp := W.pk
  obtain ⟨r, h1, h2⟩ := loop_ends (f_plenumlaw20_QueryLowest.b3 s2 dead)
    (fun s => ∃ c : Nat, s.1 = (c : Int) ∧ c ≤ k ∧ (((p < c → 2 ≤ L) ∧ Al k ad (MP p c L) s.2) ∨ (p < c ∧ ∃ L', 1 ≤ L' ∧ L' ≤ 25 ∧ Al k ad (MR p dead c L') s.2)))
    (fun r => ∃ xs', r = .inl ((k : Int), xs') ∧ ((2 ≤ L ∧ Al k ad (MP p 0 (L - 1)) xs') ∨ ∃ L', 1 ≤ L' ∧ L' ≤ 25 ∧ Al k ad (MR p dead 0 L') xs'))
    (fun s => k - s.1.toNat)
    (by
      rintro ⟨c0, zs⟩ ⟨c, rfl, hc, ha⟩
      simp only at ha
      have hlen : zs.length = k := by
        rcases ha with ⟨_, ha⟩ | ⟨_, _, _, _, ha⟩ <;> exact ha.1
      by_cases hck : c < k
      · left
        rcases ha with ⟨hcL, ha⟩ | ⟨hpc, L', g0, g1, ha⟩
        · obtain ⟨xs', e1, e2⟩ := turn_P W hL0 hcL hck ha
          exact ⟨_, e1, ⟨c + 1, by simp, by omega, e2⟩, by simp; omega⟩
        · obtain ⟨xs', e1, L2, g2, g3, e2⟩ := turn_R W g0 g1 hck ha
          exact ⟨_, e1, ⟨c + 1, by simp, by omega, .inr ⟨by omega, L2, g2, g3, e2⟩⟩, by simp; omega⟩
      · right
        have e1 : ¬ ((c : Int) < (zs.length : Int)) := by rw [hlen]; omega
        have hck' : c = k := by omega
        subst hck'
        refine ⟨_, by simp only [f_plenumlaw20_QueryLowest.b3, if_neg e1], zs, rfl, ?_⟩
        rcases ha with ⟨hcL, ha⟩ | ⟨hpc, L', g0, g1, ha⟩
        · left
          refine ⟨hcL hp, ha.mono fun m x hm ⟨q1, q2⟩ => ⟨q1, fun e => ?_⟩⟩
          have := q2 e
          rw [if_pos hp] at this
          rw [if_neg (by omega)]
          omega
        · right
          refine ⟨L', g0, g1, ha.mono fun m x hm ⟨q1, q2, q3⟩ => ⟨q1, q2, fun a b => ⟨(q3 a b).1, ?_⟩⟩⟩
          have := (q3 a b).2
          rw [if_pos hm, if_pos hp] at this
          rw [if_neg (by omega), if_neg (by omega)]
          omega)
    (0, xs) ⟨0, rfl, Nat.zero_le _, .inl ⟨fun h => by omega, h⟩⟩
  obtain ⟨xs', rfl, h3⟩ := h2
  exact ⟨xs', h1, h3⟩
/-- Just p asks, but for who is dead. -/
theorem one_true (hk : k ≤ 8) (h : Al k ad Q xs) (hq : ∀ m x, m < k → (m : Int) ≠ dead → Q m x → x.f_asks = decide (m = p)) : f_plenumlaw20_one xs dead (p : Int) = some true := by
  obtain ⟨r, h1, h2⟩ := loop_ends (f_plenumlaw20_one.b0 xs dead (p : Int))
    (fun s => ∃ c : Nat, s = (c : Int) ∧ c ≤ k) (fun r => ∃ y, r = .inl y) (fun s => k - s.toNat)
    (by
      rintro c0 ⟨c, rfl, hc⟩
      by_cases hck : c < k
      · left
        have e1 : (c : Int) < (xs.length : Int) := by rw [h.1]; omega
        refine ⟨(c : Int) + 1, ?_, ⟨c + 1, by simp, by omega⟩, by simp; omega⟩
        simp only [f_plenumlaw20_one.b0, if_pos e1]
        by_cases hd : (c : Int) = dead
        · rw [if_pos hd, w64 (by omega) (by omega)]
        · obtain ⟨x, hx, _, q⟩ := h.rd hck
          have ha := hq c x hck hd q
          rw [if_neg hd, if_pos (by omega), hx]
          have e3 : (x.f_asks == decide ((c : Int) = (p : Int))) = true := by rw [ha]; simp; omega
          simp only [optE, f_query_Asker_Asks_obj, Option.bind_some, e3, if_true]
          rw [w64 (by omega) (by omega)]
      · right
        have e1 : ¬ ((c : Int) < (xs.length : Int)) := by rw [h.1]; omega
        exact ⟨.inl (c : Int), by simp only [f_plenumlaw20_one.b0, if_neg e1], _, rfl⟩)
    0 ⟨0, rfl, Nat.zero_le _⟩
  obtain ⟨y, rfl⟩ := h2
  simp only [f_plenumlaw20_one, h1, Option.bind_some]
theorem MR.one {m : Nat} {x : T_query_Asker} (h : MR p dead 0 L m x) (hd : (m : Int) ≠ dead) : x.f_asks = decide (m = p) := by
  by_cases hm : m = p
  · rw [(h.2.1 hm).1]; simp [hm]
  · rw [(h.2.2 hm hd).1]; simp [hm]
end

/-! ### The askers are made; the lowest is found -/
def adr (a0 : List Int) (m : Nat) : Int := 1 + 8 * Sp.rd a0 (m : Int) + m
theorem rd_app {α : Type} [Inhabited α] {l : List α} {v : α} {m : Nat} : Sp.rd (l ++ [v]) (m : Int) = if m < l.length then Sp.rd l (m : Int) else if m = l.length then v else default := by
  simp only [Sp.rd, Int.toNat_natCast, List.getD_eq_getElem?_getD]
  split
  · rename_i h; rw [List.getElem?_append_left h]
  · rename_i h
    rw [List.getElem?_append_right (by omega)]
    split
    · rename_i h2; subst h2; simp
    · rename_i h2
      rw [List.getElem?_eq_none (by simp; omega)]; rfl
theorem made {a0 : List Int} (h8 : a0.length ≤ 8) (hb : ∀ m, m < a0.length → 0 ≤ Sp.rd a0 (m : Int) ∧ Sp.rd a0 (m : Int) ≤ 255) :
    ∃ xs us, loopO (f_plenumlaw20_QueryLowest.b0 a0) ([], [], 0) = some (.inl (xs, us, (a0.length : Int))) ∧ us.length = a0.length ∧ (∀ m, m < a0.length → Sp.rd us (m : Int) = adr a0 m) ∧ Al a0.length (adr a0) (fun _ x => x.f_asks = true ∧ x.f_left = 1 ∧ x.f_starts = 2) xs := by
  obtain ⟨r, h1, h2⟩ := loop_ends (f_plenumlaw20_QueryLowest.b0 a0)
    (fun s => ∃ c : Nat, s.2.2 = (c : Int) ∧ c ≤ a0.length ∧ s.2.1.length = c ∧ (∀ m, m < c → Sp.rd s.2.1 (m : Int) = adr a0 m) ∧ Al c (adr a0) (fun _ x => x.f_asks = true ∧ x.f_left = 1 ∧ x.f_starts = 2) s.1)
    (fun r => ∃ xs us, r = .inl (xs, us, (a0.length : Int)) ∧ us.length = a0.length ∧ (∀ m, m < a0.length → Sp.rd us (m : Int) = adr a0 m) ∧ Al a0.length (adr a0) (fun _ x => x.f_asks = true ∧ x.f_left = 1 ∧ x.f_starts = 2) xs)
    (fun s => a0.length - s.2.2.toNat)
    (by
      rintro ⟨xs, us, i⟩ ⟨c, rfl, hc, hl, ha, hx⟩
      simp only at hl ha hx
      by_cases hck : c < a0.length
      · left
        have e1 : (c : Int) < (a0.length : Int) := by omega
        obtain ⟨b0, b1⟩ := hb c hck
        have ev : IntKind.i64.wrap ((IntKind.i64.wrap (1 + (IntKind.i64.wrap (8 * (IntKind.i64.wrap (Sp.rd a0 (c : Int))))))) + (c : Int)) = adr a0 c := by
          rw [w64 (x := Sp.rd a0 (c : Int)) (by omega) (by omega), w64 (x := 8 * Sp.rd a0 (c : Int)) (by omega) (by omega), w64 (x := 1 + 8 * Sp.rd a0 (c : Int)) (by omega) (by omega), w64 (by omega) (by omega)]
          rfl
        have hxl := hx.1
        refine ⟨(xs ++ [some ⟨adr a0 c, true, 1, 2⟩], us ++ [adr a0 c], (c : Int) + 1), ?_, ⟨c + 1, by simp, by omega, by simp [hl], fun m hm => ?_, by simp [hxl], fun m hm => ?_⟩, by simp; omega⟩
        · simp only [f_plenumlaw20_QueryLowest.b0, if_pos e1, ev]
          rw [if_pos (by omega), if_pos (by omega), if_pos (by simp; omega), rd_app, if_neg (by omega), if_pos hl.symm]
          simp only [f_query_New, Option.bind_some]
          rw [if_pos (by omega), if_pos (by simp; omega), rd_app, if_neg (by omega), if_pos hxl.symm]
          simp only [optE]
          rw [w64 (by omega) (by omega)]
        · simp only
          rw [rd_app]
          by_cases hmc : m < us.length
          · rw [if_pos hmc]; exact ha m (by omega)
          · rw [if_neg hmc, if_pos (by omega)]
            have : m = c := by omega
            rw [this]
        · simp only
          by_cases hmc : m < c
          · obtain ⟨x, k1, k2, k3⟩ := hx.2 m hmc
            exact ⟨x, by rw [List.getElem?_append_left (by omega)]; exact k1, k2, k3⟩
          · have : m = c := by omega
            subst this
            exact ⟨⟨adr a0 m, true, 1, 2⟩, by rw [List.getElem?_append_right (by omega), hxl]; simp, rfl, rfl, rfl, rfl⟩
      · right
        have hck' : c = a0.length := by omega
        have e1 : ¬ ((c : Int) < (a0.length : Int)) := by omega
        subst hck'
        exact ⟨.inl (xs, us, (a0.length : Int)), by simp only [f_plenumlaw20_QueryLowest.b0, if_neg e1], xs, us, rfl, hl, ha, hx⟩)
    ([], [], 0) ⟨0, rfl, Nat.zero_le _, rfl, fun m hm => by omega, rfl, fun m hm => by omega⟩
  obtain ⟨xs, us, rfl, h3⟩ := h2
  exact ⟨xs, us, h1, h3⟩
theorem adr_ne {a0 : List Int} (h8 : a0.length ≤ 8) {m i : Nat} (hm : m < a0.length) (hi : i < a0.length) (hne : m ≠ i) : adr a0 m ≠ adr a0 i := by
  unfold adr; omega
theorem lowest {us : List Int} {n : Nat} {ad : Nat → Int} (s2 : (List (Option T_query_Asker)) × (List Int) × Int) (h8 : n ≤ 8) (h0 : 0 < n) (hl : s2.2.1.length = n) (ha : ∀ m, m < n → Sp.rd s2.2.1 (m : Int) = ad m) :
    ∃ p : Nat, p < n ∧ loopO (f_plenumlaw20_QueryLowest.b1 s2) (0, 0) = some (.inl ((p : Int), (n : Int))) ∧ ∀ m, m < n → ad p ≤ ad m := by
  obtain ⟨r, h1, h2⟩ := loop_ends (f_plenumlaw20_QueryLowest.b1 s2)
    (fun s => ∃ c p : Nat, s = ((p : Int), (c : Int)) ∧ c ≤ n ∧ p < n ∧ ∀ m, m < c → ad p ≤ ad m)
    (fun r => ∃ p : Nat, p < n ∧ r = .inl ((p : Int), (n : Int)) ∧ ∀ m, m < n → ad p ≤ ad m)
    (fun s => n - s.2.toNat)
    (by
      rintro _ ⟨c, p, rfl, hc, hp, hm⟩
      by_cases hck : c < n
      · left
        have e1 : (c : Int) < (s2.2.1.length : Int) := by omega
        have e2 : (p : Int) < (s2.2.1.length : Int) := by omega
        have ew : IntKind.i64.wrap ((c : Int) + 1) = (c : Int) + 1 := w64 (by omega) (by omega)
        by_cases hlt : ad c < ad p
        · refine ⟨((c : Int), (c : Int) + 1), ?_, ⟨c + 1, c, by simp, by omega, hck, fun m hm' => ?_⟩, by simp; omega⟩
          · simp only [f_plenumlaw20_QueryLowest.b1, if_pos e1]
            rw [if_pos (by omega), if_pos (by omega), if_pos e2, ha c hck, ha p hp, if_pos hlt, ew]
          · by_cases hmc : m = c
            · subst hmc; exact Int.le_refl _
            · have := hm m (by omega); omega
        · refine ⟨((p : Int), (c : Int) + 1), ?_, ⟨c + 1, p, by simp, by omega, hp, fun m hm' => ?_⟩, by simp; omega⟩
          · simp only [f_plenumlaw20_QueryLowest.b1, if_pos e1]
            rw [if_pos (by omega), if_pos (by omega), if_pos e2, ha c hck, ha p hp, if_neg hlt, ew]
          · by_cases hmc : m = c
            · subst hmc; omega
            · exact hm m (by omega)
      · right
        have hck' : c = n := by omega
        have e1 : ¬ ((c : Int) < (s2.2.1.length : Int)) := by omega
        subst hck'
        exact ⟨.inl ((p : Int), (c : Int)), by simp only [f_plenumlaw20_QueryLowest.b1, if_neg e1], p, hp, rfl, hm⟩)
    (0, 0) ⟨0, 0, rfl, Nat.zero_le _, h0, fun m hm => by omega⟩
  obtain ⟨p, hp, rfl, hm⟩ := h2
  exact ⟨p, hp, h1, hm⟩
/-- .. of those that are not dead. -/
theorem nextlow {n : Nat} {ad : Nat → Int} {d : Nat} (s2 : (List (Option T_query_Asker)) × (List Int) × Int) (s : Int × Int × (List (Option T_query_Asker))) (hs : s.1 = (d : Int)) (h8 : n ≤ 8) (h1 : 1 < n) (hd : d < n) (hl : s2.2.1.length = n) (ha : ∀ m, m < n → Sp.rd s2.2.1 (m : Int) = ad m) :
    ∃ p : Nat, p < n ∧ p ≠ d ∧ loopO (f_plenumlaw20_QueryLowest.b5 s2 s) ((-1), 0) = some (.inl ((p : Int), (n : Int))) ∧ ∀ m, m < n → m ≠ d → ad p ≤ ad m := by
  obtain ⟨r, h1', h2⟩ := loop_ends (f_plenumlaw20_QueryLowest.b5 s2 s)
    (fun q => ∃ c : Nat, q.2 = (c : Int) ∧ c ≤ n ∧ ((q.1 = -1 ∧ ∀ m, m < c → m = d) ∨ ∃ p : Nat, q.1 = (p : Int) ∧ p < n ∧ p ≠ d ∧ ∀ m, m < c → m ≠ d → ad p ≤ ad m))
    (fun r => ∃ p : Nat, p < n ∧ p ≠ d ∧ r = .inl ((p : Int), (n : Int)) ∧ ∀ m, m < n → m ≠ d → ad p ≤ ad m)
    (fun q => n - q.2.toNat)
    (by
      rintro ⟨q, c0⟩ ⟨c, rfl, hc, hq⟩
      simp only at hq
      by_cases hck : c < n
      · left
        have e1 : (c : Int) < (s2.2.1.length : Int) := by omega
        have ew : IntKind.i64.wrap ((c : Int) + 1) = (c : Int) + 1 := w64 (by omega) (by omega)
        by_cases hcd : c = d
        · refine ⟨(q, (c : Int) + 1), ?_, ⟨c + 1, by simp, by omega, ?_⟩, by simp; omega⟩
          · simp only [f_plenumlaw20_QueryLowest.b5, if_pos e1, hs]
            rw [if_pos (by omega), ew]
          · simp only
            rcases hq with ⟨h2, h3⟩ | ⟨p, h2, h3, h4, h5⟩
            · exact .inl ⟨h2, fun m hm => by by_cases hmc : m = c; exact hmc.trans hcd; exact h3 m (by omega)⟩
            · exact .inr ⟨p, h2, h3, h4, fun m hm hmd => h5 m (by omega) hmd⟩
        · rcases hq with ⟨rfl, h3⟩ | ⟨p, rfl, h3, h4, h5⟩
          · refine ⟨((c : Int), (c : Int) + 1), ?_, ⟨c + 1, by simp, by omega, .inr ⟨c, rfl, hck, hcd, fun m hm hmd => ?_⟩⟩, by simp; omega⟩
            · simp only [f_plenumlaw20_QueryLowest.b5, if_pos e1, hs]
              rw [if_neg (by omega), if_pos (by omega), ew]
            · by_cases hmc : m = c
              · subst hmc; exact Int.le_refl _
              · exact absurd (h3 m (by omega)) hmd
          · have e2 : (p : Int) < (s2.2.1.length : Int) := by omega
            by_cases hlt : ad c < ad p
            · refine ⟨((c : Int), (c : Int) + 1), ?_, ⟨c + 1, by simp, by omega, .inr ⟨c, rfl, hck, hcd, fun m hm hmd => ?_⟩⟩, by simp; omega⟩
              · simp only [f_plenumlaw20_QueryLowest.b5, if_pos e1, hs]
                rw [if_neg (by omega), if_neg (by omega), if_pos (by omega), if_pos (by omega), if_pos e2, ha c hck, ha p h3, if_pos hlt, ew]
              · by_cases hmc : m = c
                · subst hmc; exact Int.le_refl _
                · have := h5 m (by omega) hmd; omega
            · refine ⟨((p : Int), (c : Int) + 1), ?_, ⟨c + 1, by simp, by omega, .inr ⟨p, rfl, h3, h4, fun m hm hmd => ?_⟩⟩, by simp; omega⟩
              · simp only [f_plenumlaw20_QueryLowest.b5, if_pos e1, hs]
                rw [if_neg (by omega), if_neg (by omega), if_pos (by omega), if_pos (by omega), if_pos e2, ha c hck, ha p h3, if_neg hlt, ew]
              · by_cases hmc : m = c
                · subst hmc; omega
                · exact h5 m (by omega) hmd
      · right
        have hck' : c = n := by omega
        have e1 : ¬ ((c : Int) < (s2.2.1.length : Int)) := by omega
        subst hck'
        rcases hq with ⟨rfl, h3⟩ | ⟨p, rfl, h3, h4, h5⟩
        · exfalso
          have a1 := h3 0 (by omega)
          have a2 := h3 1 (by omega)
          omega
        · exact ⟨.inl ((p : Int), (c : Int)), by simp only [f_plenumlaw20_QueryLowest.b5, if_neg e1], p, h3, h4, rfl, h5⟩)
    ((-1), 0) ⟨0, rfl, Nat.zero_le _, .inl ⟨rfl, fun m hm => by omega⟩⟩
  obtain ⟨p, hp, hpd, rfl, hm⟩ := h2
  exact ⟨p, hp, hpd, h1', hm⟩

/-! ### The days -/
theorem day {a1 : Bool} {a2 : Int} {s2 : (List (Option T_query_Asker)) × (List Int) × Int} {s3 : Int × Int} {d t d' j : Int} {xs xs' : List (Option T_query_Asker)} (h0 : 0 ≤ a2) (h1 : a2 ≤ 255) (ht0 : 1 ≤ t) (ht : t ≤ 130 + a2)
    (hd : d' = if t = 60 ∧ a1 = true ∧ 1 < (xs.length : Int) then s3.1 else d) (hr : loopO (f_plenumlaw20_QueryLowest.b3 s2 d') (0, xs) = some (.inl (j, xs'))) (ho : t < 60 → f_plenumlaw20_one xs' (-1) s3.1 = some true) :
    f_plenumlaw20_QueryLowest.b4 a1 a2 s2 s3 (d, t, xs) = some (.inl (d', t + 1, xs')) := by
  have e1 : t ≤ IntKind.i64.wrap (130 + IntKind.i64.wrap a2) := by rw [w64 (x := a2) (by omega) (by omega), w64 (by omega) (by omega)]; exact ht
  have ew : IntKind.i64.wrap (t + 1) = t + 1 := w64 (by omega) (by omega)
  have fin : ∀ q : Int, q = d' → ((loopO (f_plenumlaw20_QueryLowest.b3 s2 q) (0, xs)).bind fun y53 => match y53 with | .inl s36 => (if t < 60 then ((f_plenumlaw20_one s36.2 (-1) s3.1).bind fun t272 => (if t272 = true then some (.inl (q, IntKind.i64.wrap (t + 1), s36.2)) else some (.inr (.inr false)))) else some (.inl (q, IntKind.i64.wrap (t + 1), s36.2))) | .inr r_ => some (.inr (.inr r_))) = (some (.inl (d', t + 1, xs')) : Option (Sum (Int × Int × (List (Option T_query_Asker))) (Sum (Int × Int × (List (Option T_query_Asker))) f_plenumlaw20_QueryLowest.R))) := by
    rintro q rfl
    rw [hr]
    simp only [Option.bind_some, ew]
    by_cases h60 : t < 60
    · rw [if_pos h60, ho h60]; rfl
    · rw [if_neg h60]
  simp only [f_plenumlaw20_QueryLowest.b4, if_pos e1]
  by_cases h60 : t = 60
  · by_cases ha : a1 = true
    · by_cases hl : 1 < (xs.length : Int)
      · rw [if_pos ⟨h60, ha, hl⟩] at hd
        rw [if_pos h60, if_pos ha]
        simp only [Option.bind_some, decide_eq_true hl, if_true]
        exact fin _ hd.symm
      · rw [if_neg (fun q => hl q.2.2)] at hd
        rw [if_pos h60, if_pos ha]
        simp only [Option.bind_some, decide_eq_false hl, Bool.false_eq_true, if_false]
        exact fin _ hd.symm
    · rw [if_neg (fun q => ha q.2.1)] at hd
      rw [if_pos h60, if_neg ha]
      simp only [Option.bind_some, Bool.false_eq_true, if_false]
      exact fin _ hd.symm
  · rw [if_neg (fun q => h60 q.1)] at hd
    rw [if_neg h60]
    simp only [Option.bind_some, Bool.false_eq_true, if_false]
    exact fin _ hd.symm
theorem Al.pick (h : Al k ad Q xs) {m0 : Nat} (h0 : m0 < k) : ∃ l, Al k ad (fun m x => Q m x ∧ (m = m0 → x.f_left = l)) xs := by
  obtain ⟨x0, k1, k2, k3⟩ := h.2 m0 h0
  refine ⟨x0.f_left, h.1, fun m hm => ?_⟩
  obtain ⟨x, e1, e2, e3⟩ := h.2 m hm
  refine ⟨x, e1, e2, e3, fun e => ?_⟩
  subst e
  rw [k1] at e1
  have := Option.some.inj (Option.some.inj e1)
  rw [this]
theorem days {a1 : Bool} {a2 : Int} {s2 : (List (Option T_query_Asker)) × (List Int) × Int} {p nx : Nat} {j : Int} {xs : List (Option T_query_Asker)} (g0 : 0 ≤ a2) (g1 : a2 ≤ 255) (W : Low k ad s2 (-1) p) (W2 : 1 < k → Low k ad s2 (p : Int) nx) (h : Al k ad (MP p 0 1) xs) :
    ∃ d t ys, loopO (f_plenumlaw20_QueryLowest.b4 a1 a2 s2 ((p : Int), j)) ((-1), 1, xs) = some (.inl (d, t, ys)) ∧ ((d = -1 ∧ ∃ L, Al k ad (MR p (-1) 0 L) ys) ∨ (d = (p : Int) ∧ 1 < k ∧ ∃ L, Al k ad (MR nx (p : Int) 0 L) ys)) := by
  obtain ⟨r, h1, h2⟩ := loop_ends (f_plenumlaw20_QueryLowest.b4 a1 a2 s2 ((p : Int), j))
    (fun s => 1 ≤ s.2.1 ∧ s.2.1 ≤ 131 + a2 ∧ ((s.1 = -1 ∧ (a1 = true ∧ 1 < k → s.2.1 ≤ 60) ∧ ((s.2.1 = 1 ∧ Al k ad (MP p 0 1) s.2.2) ∨ ∃ L, 1 ≤ L ∧ L ≤ 25 ∧ Al k ad (MR p (-1) 0 L) s.2.2)) ∨
      (s.1 = (p : Int) ∧ 1 < k ∧ 61 ≤ s.2.1 ∧ ((∃ L, 1 ≤ L ∧ L + (s.2.1 - 61) ≤ 53 ∧ Al k ad (MP nx 0 L) s.2.2) ∨ ∃ L, 1 ≤ L ∧ L ≤ 25 ∧ Al k ad (MR nx (p : Int) 0 L) s.2.2))))
    (fun r => ∃ d t ys, r = .inl (d, t, ys) ∧ ((d = -1 ∧ ∃ L, Al k ad (MR p (-1) 0 L) ys) ∨ (d = (p : Int) ∧ 1 < k ∧ ∃ L, Al k ad (MR nx (p : Int) 0 L) ys)))
    (fun s => (132 + a2 - s.2.1).toNat)
    (by
      rintro ⟨d, t, ys⟩ ⟨ht0, ht1, hst⟩
      simp only at ht0 ht1 hst
      by_cases hend : t ≤ 130 + a2
      · left
        have hlen : ys.length = k := by
          rcases hst with ⟨_, _, ⟨_, h⟩ | ⟨_, _, _, h⟩⟩ | ⟨_, _, _, ⟨_, _, _, h⟩ | ⟨_, _, _, h⟩⟩ <;> exact h.1
        have one_ : ∀ L' ys', Al k ad (MR p (-1) 0 L') ys' → f_plenumlaw20_one ys' (-1) (p : Int) = some true := fun L' ys' ha => one_true W.k8 ha fun m x hm hd q => q.one hd
        rcases hst with ⟨rfl, hs60, ⟨rfl, ha⟩ | ⟨L, l0, l1, ha⟩⟩ | ⟨rfl, hk1, ht61, hB⟩
        · obtain ⟨xs', e1, e2⟩ := round_P W (Int.le_refl _) ha
          rcases e2 with ⟨e2, _⟩ | ⟨L', q0, q1, e3⟩
          · omega
          · exact ⟨_, day g0 g1 ht0 hend (by rw [if_neg (by omega)]) e1 (fun _ => one_ _ _ e3), ⟨by simp, by simp only; omega, .inl ⟨rfl, fun _ => by simp, .inr ⟨L', q0, q1, e3⟩⟩⟩, by simp only; omega⟩
        · by_cases hsw : t = 60 ∧ a1 = true ∧ 1 < (ys.length : Int)
          · have hk1 : 1 < k := by have := hsw.2.2; omega
            obtain ⟨l, hp⟩ := ha.pick (W2 hk1).pk
            have hp1 : 1 ≤ l ∧ l ≤ 54 := by
              obtain ⟨x, _, _, q, q2⟩ := hp.2 nx (W2 hk1).pk
              have := q.1; have e := q2 rfl
              obtain ⟨r1, r2⟩ := this
              omega
            obtain ⟨xs', e1, e2⟩ := round_P (W2 hk1) hp1.1 (hp.mono fun m x hm q => (⟨q.1.1, fun e => by rw [if_neg (by omega), q.2 e]; omega⟩ : MP nx 0 l m x))
            refine ⟨_, day g0 g1 ht0 hend (by rw [if_pos hsw]) e1 (fun h => by omega), ⟨by simp only; omega, by simp only; omega, .inr ⟨rfl, hk1, by simp only; omega, ?_⟩⟩, by simp only; omega⟩
            rcases e2 with ⟨e2, e3⟩ | ⟨L', q0, q1, e3⟩
            · exact .inl ⟨l - 1, by omega, by simp only; omega, e3⟩
            · exact .inr ⟨L', q0, q1, e3⟩
          · obtain ⟨xs', e1, L', q0, q1, e3⟩ := round_R W l0 l1 ha
            refine ⟨_, day g0 g1 ht0 hend (by rw [if_neg hsw]) e1 (fun _ => one_ _ _ e3), ⟨by simp only; omega, by simp only; omega, .inl ⟨rfl, fun hh => ?_, .inr ⟨L', q0, q1, e3⟩⟩⟩, by simp only; omega⟩
            have h60 := hs60 hh
            have hne : t ≠ 60 := fun e => hsw ⟨e, hh.1, by have := hh.2; omega⟩
            simp only; omega
        · rcases hB with ⟨L, l0, l1, ha⟩ | ⟨L, l0, l1, ha⟩
          · obtain ⟨xs', e1, e2⟩ := round_P (W2 hk1) l0 ha
            refine ⟨_, day g0 g1 ht0 hend (by rw [if_neg (by omega)]) e1 (fun h => by omega), ⟨by simp only; omega, by simp only; omega, .inr ⟨rfl, hk1, by simp only; omega, ?_⟩⟩, by simp only; omega⟩
            rcases e2 with ⟨e2, e3⟩ | ⟨L', q0, q1, e3⟩
            · exact .inl ⟨L - 1, by omega, by simp only; omega, e3⟩
            · exact .inr ⟨L', q0, q1, e3⟩
          · obtain ⟨xs', e1, L', q0, q1, e3⟩ := round_R (W2 hk1) l0 l1 ha
            exact ⟨_, day g0 g1 ht0 hend (by rw [if_neg (by omega)]) e1 (fun h => by omega), ⟨by simp only; omega, by simp only; omega, .inr ⟨rfl, hk1, by simp only; omega, .inr ⟨L', q0, q1, e3⟩⟩⟩, by simp only; omega⟩
      · right
        have e1 : ¬ t ≤ IntKind.i64.wrap (130 + IntKind.i64.wrap a2) := by rw [w64 (x := a2) (by omega) (by omega), w64 (by omega) (by omega)]; exact hend
        refine ⟨.inl (d, t, ys), by simp only [f_plenumlaw20_QueryLowest.b4, if_neg e1], d, t, ys, rfl, ?_⟩
        rcases hst with ⟨rfl, hs60, ⟨rfl, ha⟩ | ⟨L, l0, l1, ha⟩⟩ | ⟨rfl, hk1, ht61, ⟨L, l0, l1, ha⟩ | ⟨L, l0, l1, ha⟩⟩
        · omega
        · exact .inl ⟨rfl, L, ha⟩
        · omega
        · exact .inr ⟨rfl, hk1, L, ha⟩)
    ((-1), 1, xs) ⟨by simp, by simp only; omega, .inl ⟨rfl, fun _ => by simp, .inl ⟨rfl, h⟩⟩⟩
  obtain ⟨d, t, ys, rfl, h3⟩ := h2
  exact ⟨d, t, ys, h1, h3⟩
theorem awake_true : f_plenumlaw20_awake = some true := rfl
theorem pure_QueryLowest : QueryLowest.Pure := by
  intro a0 a1 a2 ⟨_, hin⟩ _ h2
  obtain ⟨g0, g1⟩ := inI_u8 h2
  unfold f_plenumlaw20_QueryLowest
  by_cases hz : (a0.length : Int) = 0
  · rw [if_pos hz]; simp [awake_true]
  rw [if_neg hz]
  by_cases h8 : 8 < (a0.length : Int)
  · simp [h8, awake_true]
  have h8' : a0.length ≤ 8 := by omega
  have h0 : 0 < a0.length := by omega
  have hb : ∀ m, m < a0.length → 0 ≤ Sp.rd a0 (m : Int) ∧ Sp.rd a0 (m : Int) ≤ 255 := fun m hm => by
    have e : Sp.rd a0 (m : Int) = a0[m] := by simp [Sp.rd, hm]
    rw [e]; exact inI_u8 (hin _ (List.getElem_mem hm))
  obtain ⟨xs, us, e1, hl, ha, hx⟩ := made h8' hb
  obtain ⟨p, hp, e2, hlow⟩ := lowest (us := us) (xs, us, (a0.length : Int)) h8' h0 hl ha
  have hpos : ∀ m, m < a0.length → 0 < adr a0 m := fun m hm => by have := (hb m hm).1; unfold adr; omega
  have W : Low a0.length (adr a0) (xs, us, (a0.length : Int)) (-1) p := ⟨h8', hl, ha, hpos, hp, by omega, fun m hm hne _ => by have q1 := hlow m hm; have q2 := adr_ne h8' hm hp hne; omega⟩
  have hnx : ∃ nx, 1 < a0.length → Low a0.length (adr a0) (xs, us, (a0.length : Int)) (p : Int) nx := by
    by_cases hk1 : 1 < a0.length
    · obtain ⟨nx, n1, n2, _, n3⟩ := nextlow (xs, us, (a0.length : Int)) ((p : Int), 0, []) rfl h8' hk1 hp hl ha
      exact ⟨nx, fun _ => ⟨h8', hl, ha, hpos, n1, by omega, fun m hm hne hd => by have q1 := n3 m hm (by omega); have q2 := adr_ne h8' hm n1 hne; omega⟩⟩
    · exact ⟨0, fun h => absurd h hk1⟩
  obtain ⟨nx, W2⟩ := hnx
  obtain ⟨d, t, ys, e3, hfin⟩ := days (a1 := a1) (j := (a0.length : Int)) g0 g1 W W2 (hx.mono fun m x hm q => (⟨⟨by omega, by omega⟩, fun _ => by rw [if_neg (by omega), q.2.1]; rfl⟩ : MP p 0 1 m x))
  simp only [decide_eq_false h8, Option.bind_some, Bool.false_eq_true, if_false, e1, e2, e3]
  rcases hfin with ⟨rfl, L, hr⟩ | ⟨rfl, hk1, L, hr⟩
  · rw [if_pos (by omega), one_true h8' hr fun m x hm hd q => q.one hd]
    simp [awake_true]
  · rw [if_neg (by omega)]
    obtain ⟨n2, m1, m2, e4, m3⟩ := nextlow (xs, us, (a0.length : Int)) ((p : Int), t, ys) rfl h8' hk1 hp hl ha
    have W2' := W2 hk1
    have hnn : n2 = nx := by
      by_cases hne : n2 = nx
      · exact hne
      · exfalso
        have q1 := W2'.low n2 m1 hne (by omega)
        have q2 := m3 nx W2'.pk (by have := W2'.live; omega)
        omega
    subst hnn
    simp only [e4, Option.bind_some]
    rw [one_true h8' hr fun m x hm hd q => q.one hd]
    simp [awake_true]
theorem QueryLowest_holds : Rows.QueryLowestSaid := QueryLowest_row pure_QueryLowest
end Go.Proofs.Ytdabiggfmmjjjaa
