/- Chapter 17, plain: the advertisements that Graph makes. Conditions: none. -/
import Derived.Test.YtbjnbjgiidcfjaaUTA
set_option linter.unusedVariables false
set_option linter.unusedSectionVars false
set_option linter.unusedSimpArgs false
namespace Go.Proofs.Ytbjnbjgiidcfjaa
open Go Go.Proofs.Ytbjnbjgiidcfjaa.Sp
def stubP (k : T_api_Link) : Bool := decide (k.f_Kind = 3) && decide (0 ≤ bitsF k.f_Data)
def nst (l : List T_api_Link) : Nat := (l.filter stubP).length
theorem nst_app (l : List T_api_Link) (k : T_api_Link) : nst (l ++ [k]) = nst l + (if stubP k then 1 else 0) := by
  unfold nst
  rw [List.filter_append, List.length_append]
  by_cases h : stubP k = true <;> simp [h]
/-- Advertisement i of a graph of K routers, of which r have their stubs. -/
structure Pi (K r b i : Nat) (x : T_api_Lsa) : Prop where
  rt : i < K → x.f_Head = ⟨0, 1, (i : Int) + 1, (i : Int) + 1, 0, 0, 0⟩
  nt : K ≤ i → x.f_Head.f_Kind = 2
  links : x.f_Links.length ≤ b
  routers : x.f_Routers.length ≤ 6
  verts : x.f_Verts = []
  stubs : nst x.f_Links = if i < r then 1 else 0
def Gi (K r b : Nat) (out : List T_api_Lsa) : Prop := ∀ i x, out[i]? = some x → Pi K r b i x
theorem Gi.mono {K r b b' : Nat} {out : List T_api_Lsa} (h : Gi K r b out) (hb : b ≤ b') : Gi K r b' out := fun i x hx => ⟨(h i x hx).rt, (h i x hx).nt, Nat.le_trans (h i x hx).links hb, (h i x hx).routers, (h i x hx).verts, (h i x hx).stubs⟩
theorem Gi.len {K r b : Nat} {out : List T_api_Lsa} (h : Gi K r b out) {a : Int} (h0 : 0 ≤ a) (h1 : a < out.length) : (rd out a).f_Links.length ≤ b := (h _ _ (rd_get h0 h1)).links
theorem Gi.upd {K r b r' : Nat} {out : List T_api_Lsa} (h : Gi K r b out) {a : Int} (h0 : 0 ≤ a) (h1 : a < out.length) {k : T_api_Link} (hr : (stubP k = false ∧ r' = r) ∨ (stubP k = true ∧ a.toNat = r ∧ r' = r + 1)) :
    Gi K r' (b + 1) (setI out a (⟨(rd out a).f_Head, (rd out a).f_Flags, ((rd out a).f_Links ++ [k]), (rd out a).f_Bits, (rd out a).f_Routers, (rd out a).f_Verts⟩ : T_api_Lsa)) := by
  intro i x hx
  have ha := h _ _ (rd_get h0 h1)
  unfold setI at hx
  rw [List.getElem?_set] at hx
  by_cases hi : a.toNat = i
  · rw [if_pos hi] at hx
    have hlt : a.toNat < out.length := by omega
    rw [if_pos hlt] at hx
    obtain rfl := Option.some.inj hx
    subst hi
    refine ⟨ha.rt, ha.nt, ?_, ha.routers, ha.verts, ?_⟩
    · have := ha.links
      simp only [List.length_append, List.length_cons, List.length_nil]; omega
    · simp only [nst_app, ha.stubs]
      rcases hr with ⟨q, rfl⟩ | ⟨q, e, rfl⟩
      · simp [q]
      · simp [q, e]
  · rw [if_neg hi] at hx
    have hy := h i x hx
    refine ⟨hy.rt, hy.nt, Nat.le_succ_of_le hy.links, hy.routers, hy.verts, ?_⟩
    rw [hy.stubs]
    rcases hr with ⟨_, rfl⟩ | ⟨_, e, rfl⟩
    · rfl
    · by_cases c : i < r
      · rw [if_pos c, if_pos (by omega)]
      · rw [if_neg c, if_neg (by omega)]
theorem rd_mem {α : Type} [Inhabited α] {xs : List α} {i : Int} (h0 : 0 ≤ i) (h1 : i < xs.length) : rd xs i ∈ xs := List.mem_of_getElem? (rd_get h0 h1)
theorem modK (x : Int) (K : Nat) (h0 : 0 ≤ x) (h1 : x ≤ 255) (hK : 1 ≤ K) : 0 ≤ Int.tmod (IntKind.i64.wrap x) (K : Int) ∧ Int.tmod (IntKind.i64.wrap x) (K : Int) < K := by
  rw [w64' (by omega) (by omega), Int.tmod_eq_emod_of_nonneg h0]
  exact ⟨Int.emod_nonneg _ (by omega), Int.emod_lt_of_pos _ (by omega)⟩
/-- A row of truths, asked at a number that may lie behind it. -/
theorem ask1 {R : Type} (one : List Bool) (t : Int) (h : 0 ≤ t) : ∃ q, (if (one.length : Int) ≤ t then some (.inl true) else (if 0 ≤ t then (if t < (one.length : Int) then some (.inl (!(rd one t))) else none) else none) : Option (Sum Bool R)) = some (.inl q) := by
  by_cases c : (one.length : Int) ≤ t
  · exact ⟨_, if_pos c⟩
  · rw [if_neg c, if_pos h, if_pos (by omega)]; exact ⟨_, rfl⟩
def rtr (i : Int) : T_api_Lsa := ⟨⟨0, 1, i, i, 0, 0, 0⟩, 0, [], 0, [], []⟩
def rtrs (n : Nat) : List T_api_Lsa := (List.range n).map (fun i : Nat => rtr ((i : Int) + 1))
theorem graph0 (a0 : Int) (K : Nat) (hK : IntKind.i64.wrap (1 + (Int.tmod (IntKind.i64.wrap a0) 6)) = (K : Int)) (hK6 : K ≤ 6) : ∀ m n : Nat, n + m = K →
    ∃ k, loopO (f_plenumlaw17_Graph.b0 a0) (rtrs n, (n : Int) + 1) = some (.inl (rtrs K, k))
  | 0, n, h => by
    obtain rfl : n = K := by omega
    refine ⟨(n : Int) + 1, loopO_inr ?_⟩
    unfold f_plenumlaw17_Graph.b0
    simp only [hK]
    rw [if_neg (by omega)]
  | m + 1, n, h => by
    have hl : (rtrs n).length = n := by simp [rtrs]
    have hstep : f_plenumlaw17_Graph.b0 a0 (rtrs n, (n : Int) + 1) = some (.inl (rtrs (n + 1), ((n + 1 : Nat) : Int) + 1)) := by
      unfold f_plenumlaw17_Graph.b0
      simp only [hK, hl]
      rw [if_pos (by omega), if_pos (by omega), w64' (by omega) (by omega)]
      simp only [rtrs, List.range_succ, List.map_append, List.map_cons, List.map_nil]
      rfl
    rw [loopO_inl hstep]
    exact graph0 a0 K hK hK6 m (n + 1) (by omega)
theorem rtrs_g (K : Nat) : Gi K 0 0 (rtrs K) := by
  intro i x hx
  unfold rtrs at hx
  rw [List.getElem?_map] at hx
  obtain ⟨j, hj, rfl⟩ := Option.map_eq_some_iff.1 hx
  have hi : i < K := by
    have := (List.getElem?_eq_some_iff.1 hj).1
    simpa using this
  rw [List.getElem?_range hi] at hj
  obtain rfl := Option.some.inj hj
  exact ⟨fun _ => rfl, fun h => by omega, Nat.le_refl _, Nat.zero_le _, rfl, by simp [rtr, nst]⟩
theorem graph1_step (a0 : Int) (K : Nat) (hK : IntKind.i64.wrap (1 + (Int.tmod (IntKind.i64.wrap a0) 6)) = (K : Int)) (hK1 : 1 ≤ K) (hK6 : K ≤ 6) (ps : List Int) (hps : ∀ x ∈ ps, 0 ≤ x ∧ x ≤ 255) (one : List Bool) (j : Nat) (t : Int) (out : List T_api_Lsa) (hc : ((3 * j : Nat) : Int) + 2 < ps.length) (hj : j < 12) (ht : 0 ≤ t) (ht2 : t ≤ 1000) (hg : Gi K 0 (2 * j) out) (hl : out.length = K) :
    ∃ t' out', f_plenumlaw17_Graph.b1 a0 ps one (t, ((3 * j : Nat) : Int), out) = some (.inl (t', ((3 * (j + 1) : Nat) : Int), out')) ∧ 0 ≤ t' ∧ t' ≤ t + 1 ∧ Gi K 0 (2 * (j + 1)) out' ∧ out'.length = K := by
  have e1 : IntKind.i64.wrap (((3 * j : Nat) : Int) + 1) = ((3 * j : Nat) : Int) + 1 := w64' (by omega) (by omega)
  have e2 : IntKind.i64.wrap (((3 * j : Nat) : Int) + 2) = ((3 * j : Nat) : Int) + 2 := w64' (by omega) (by omega)
  have e3 : IntKind.i64.wrap (((3 * j : Nat) : Int) + 3) = ((3 * (j + 1) : Nat) : Int) := by rw [w64' (by omega) (by omega)]; omega
  have e4 : IntKind.i64.wrap (t + 1) = t + 1 := w64' (by omega) (by omega)
  have x1 := hps _ (rd_mem (xs := ps) (i := ((3 * j : Nat) : Int)) (by omega) (by omega))
  have x2 := hps _ (rd_mem (xs := ps) (i := ((3 * j : Nat) : Int) + 1) (by omega) (by omega))
  have ma := modK _ K x1.1 x1.2 hK1
  have mb := modK _ K x2.1 x2.2 hK1
  obtain ⟨q, hq⟩ := ask1 (R := f_plenumlaw17_Graph.R) one t ht
  unfold f_plenumlaw17_Graph.b1
  simp only [hK, e1, e2, e3, e4, hq]
  rw [if_pos (by omega)]
  simp only [Option.bind_some, decide_eq_true_eq]
  rw [if_pos (by omega), if_pos (by omega), if_pos (by omega), if_pos (by omega), if_pos (by omega), if_pos (by omega)]
  generalize Int.tmod (IntKind.i64.wrap (rd ps ((3 * j : Nat) : Int))) (K : Int) = a at ma ⊢
  generalize Int.tmod (IntKind.i64.wrap (rd ps (((3 * j : Nat) : Int) + 1))) (K : Int) = b at mb ⊢
  generalize Int.tmod (IntKind.i64.wrap (rd ps (((3 * j : Nat) : Int) + 2))) 5 = c5
  by_cases hab : a = b
  · rw [if_pos hab]
    exact ⟨t, out, rfl, ht, by omega, hg.mono (by omega), hl⟩
  · have ha1 : a < out.length := by omega
    have hla := hg.len ma.1 ha1
    rw [if_neg hab, if_pos (by omega), if_pos (by omega), if_pos ma.1, if_pos ha1, if_pos (by omega)]
    have g1 := hg.upd (r' := 0) ma.1 ha1 (k := (⟨1, IntKind.i64.wrap (b + 1), IntKind.i64.wrap (1000 + ((3 * j : Nat) : Int)), IntKind.i64.wrap (1 + c5)⟩ : T_api_Link)) (.inl ⟨by simp [stubP], rfl⟩)
    cases q with
    | false =>
      simp only [Bool.false_eq_true, if_false]
      exact ⟨_, _, rfl, by omega, by omega, g1.mono (by omega), by rw [len_setI]; exact hl⟩
    | true =>
      simp only [if_true]
      generalize hO : setI out a _ = out1 at g1 ⊢
      have hl1 : out1.length = K := by rw [← hO, len_setI]; exact hl
      have hb1 : b < out1.length := by omega
      have hlb := g1.len mb.1 hb1
      rw [if_pos mb.1, if_pos hb1, if_pos (by omega)]
      refine ⟨_, _, rfl, by omega, by omega, (g1.upd (r' := 0) mb.1 hb1 (.inl ⟨by simp [stubP], rfl⟩)).mono (by omega), by rw [len_setI]; exact hl1⟩
theorem graph1 (a0 : Int) (K : Nat) (hK : IntKind.i64.wrap (1 + (Int.tmod (IntKind.i64.wrap a0) 6)) = (K : Int)) (hK1 : 1 ≤ K) (hK6 : K ≤ 6) (ps : List Int) (hps : ∀ x ∈ ps, 0 ≤ x ∧ x ≤ 255) (one : List Bool) : ∀ (m j : Nat) (t : Int) (out : List T_api_Lsa), j + m = 12 → 0 ≤ t → t ≤ j → Gi K 0 (2 * j) out → out.length = K →
    ∃ t' i' out', loopO (f_plenumlaw17_Graph.b1 a0 ps one) (t, ((3 * j : Nat) : Int), out) = some (.inl (t', i', out')) ∧ 0 ≤ t' ∧ t' ≤ 12 ∧ Gi K 0 24 out' ∧ out'.length = K := by
  intro m
  induction m with
  | zero =>
    intro j t out h ht ht2 hg hl
    refine ⟨t, ((3 * j : Nat) : Int), out, loopO_inr ?_, ht, by omega, hg.mono (by omega), hl⟩
    unfold f_plenumlaw17_Graph.b1
    by_cases c : IntKind.i64.wrap (((3 * j : Nat) : Int) + 2) < (ps.length : Int)
    · simp only [if_pos c, Option.bind_some, decide_eq_true_eq]
      rw [if_neg (by omega)]
    · simp only [if_neg c, Option.bind_some, Bool.false_eq_true, if_false]
  | succ m ih =>
    intro j t out h ht ht2 hg hl
    have e2 : IntKind.i64.wrap (((3 * j : Nat) : Int) + 2) = ((3 * j : Nat) : Int) + 2 := w64' (by omega) (by omega)
    by_cases c : ((3 * j : Nat) : Int) + 2 < (ps.length : Int)
    · obtain ⟨t', out', h1, h2, h3, h4, h5⟩ := graph1_step a0 K hK hK1 hK6 ps hps one j t out c (by omega) ht (by omega) hg hl
      rw [loopO_inl h1]
      exact ih (j + 1) t' out' (by omega) h2 (by omega) h4 h5
    · refine ⟨t, ((3 * j : Nat) : Int), out, loopO_inr ?_, ht, by omega, hg.mono (by omega), hl⟩
      unfold f_plenumlaw17_Graph.b1
      simp only [e2, if_neg c, Option.bind_some, Bool.false_eq_true, if_false]
theorem graph2 (a0 : Int) (K : Nat) (hK : IntKind.i64.wrap (1 + (Int.tmod (IntKind.i64.wrap a0) 6)) = (K : Int)) (hK1 : 1 ≤ K) (hK6 : K ≤ 6) (ns : List Int) (one : List Bool) (s19 : (List T_api_Lsa) × Int × Int) (h0 : 0 ≤ s19.2.2) (h1 : s19.2.2 < ns.length) (b n : Nat) (hn : K ≤ n) (hb : b ≤ 1000) : ∀ (m r : Nat) (t : Int) (rs : List Int) (out : List T_api_Lsa), r + m = K → 0 ≤ t → t + m ≤ 1000 → rs.length ≤ r → Gi K 0 (b + r) out → out.length = n →
    ∃ t' r' rs' out', loopO (f_plenumlaw17_Graph.b2 a0 ns one s19) (t, (r : Int), rs, out) = some (.inl (t', r', rs', out')) ∧ 0 ≤ t' ∧ t' ≤ t + m ∧ rs'.length ≤ K ∧ Gi K 0 (b + K) out' ∧ out'.length = n := by
  intro m
  induction m with
  | zero =>
    intro r t rs out h ht ht2 hrs hg hl
    refine ⟨t, (r : Int), rs, out, loopO_inr ?_, ht, by omega, by omega, hg.mono (by omega), hl⟩
    unfold f_plenumlaw17_Graph.b2
    simp only [hK]
    rw [if_neg (by omega)]
  | succ m ih =>
    intro r t rs out h ht ht2 hrs hg hl
    have e1 : IntKind.i64.wrap ((r : Int) + 1) = ((r + 1 : Nat) : Int) := by rw [w64' (by omega) (by omega)]; omega
    have e2 : IntKind.i64.wrap (t + 1) = t + 1 := w64' (by omega) (by omega)
    have e3 : IntKind.u64.wrap (r : Int) = (r : Int) := by
      simp only [IntKind.wrap, IntKind.signed, IntKind.bits]
      simp
      omega
    have hr1 : (r : Int) < out.length := by omega
    have hlr := hg.len (a := (r : Int)) (by omega) hr1
    obtain ⟨q, hq⟩ := ask1 (R := f_plenumlaw17_Graph.R) one t ht
    have hstep : ∃ t' rs' out', f_plenumlaw17_Graph.b2 a0 ns one s19 (t, (r : Int), rs, out) = some (.inl (t', ((r + 1 : Nat) : Int), rs', out')) ∧ 0 ≤ t' ∧ t' ≤ t + 1 ∧ rs'.length ≤ r + 1 ∧ Gi K 0 (b + (r + 1)) out' ∧ out'.length = n := by
      unfold f_plenumlaw17_Graph.b2
      simp only [hK, e1, e2, e3, hq]
      rw [if_pos (by omega), if_pos h0, if_pos h1, if_pos (by omega)]
      by_cases c : bits .and .u8 (shrI .u8 (rd ns s19.2.2) (r : Int)) 1 = 0
      · rw [if_pos c]
        exact ⟨t, rs, out, rfl, ht, by omega, by omega, hg.mono (by omega), hl⟩
      · rw [if_neg c, if_pos (by omega)]
        simp only [Option.bind_some]
        cases q with
        | false =>
          simp only [Bool.false_eq_true, if_false]
          exact ⟨_, _, _, rfl, by omega, by omega, by simp; omega, hg.mono (by omega), hl⟩
        | true =>
          simp only [if_true]
          rw [if_pos (by omega), if_pos hr1, if_pos (by omega)]
          exact ⟨_, _, _, rfl, by omega, by omega, by simp; omega, (hg.upd (r' := 0) (by omega) hr1 (.inl ⟨by simp [stubP], rfl⟩)).mono (by omega), by rw [len_setI]; exact hl⟩
    obtain ⟨t', rs', out', k1, k2, k3, k4, k5, k6⟩ := hstep
    rw [loopO_inl k1]
    obtain ⟨t2, r2, rs2, out2, q1, q2, q3, q4⟩ := ih (r + 1) t' rs' out' (by omega) k2 (by omega) k4 k5 k6
    exact ⟨t2, r2, rs2, out2, q1, q2, by omega, q4⟩
theorem graph3 (a0 : Int) (K : Nat) (hK : IntKind.i64.wrap (1 + (Int.tmod (IntKind.i64.wrap a0) 6)) = (K : Int)) (hK1 : 1 ≤ K) (hK6 : K ≤ 6) (ns : List Int) (one : List Bool) : ∀ (m i : Nat) (t : Int) (out : List T_api_Lsa), i + m = 8 → 0 ≤ t → t ≤ 12 + 6 * i → Gi K 0 (24 + 6 * i) out → K ≤ out.length → out.length ≤ K + i →
    ∃ out' t' i', loopO (f_plenumlaw17_Graph.b3 a0 ns one) (out, t, (i : Int)) = some (.inl (out', t', i')) ∧ Gi K 0 72 out' ∧ K ≤ out'.length ∧ out'.length ≤ K + 8 := by
  intro m
  induction m with
  | zero =>
    intro i t out h ht ht2 hg hl hl2
    refine ⟨out, t, (i : Int), loopO_inr ?_, hg.mono (by omega), hl, by omega⟩
    unfold f_plenumlaw17_Graph.b3
    by_cases c : (i : Int) < (ns.length : Int)
    · simp only [if_pos c, Option.bind_some, decide_eq_true_eq]
      rw [if_neg (by omega)]
    · simp only [if_neg c, Option.bind_some, Bool.false_eq_true, if_false]
  | succ m ih =>
    intro i t out h ht ht2 hg hl hl2
    by_cases c : (i : Int) < (ns.length : Int)
    · have e1 : IntKind.i64.wrap ((i : Int) + 1) = ((i + 1 : Nat) : Int) := by rw [w64' (by omega) (by omega)]; omega
      obtain ⟨t', r', rs', out', k1, k2, k3, k4, k5, k6⟩ := graph2 a0 K hK hK1 hK6 ns one (out, t, (i : Int)) (by simp) c (24 + 6 * i) out.length hl (by omega) K 0 t [] out (by omega) ht (by omega) (by simp) (hg.mono (by omega)) rfl
      rw [show ((0 : Nat) : Int) = 0 from rfl] at k1
      obtain ⟨x, hx⟩ : ∃ x : T_api_Lsa, x = (⟨(⟨0, 2, shlI .i64 (IntKind.i64.wrap (101 + (i : Int))) 8, IntKind.i64.wrap (1 + (Int.tmod (IntKind.i64.wrap (rd ns (i : Int))) (K : Int))), 0, 0, 0⟩ : T_api_Head), 0, [], 24, rs', []⟩ : T_api_Lsa) := ⟨_, rfl⟩
      have hstep : f_plenumlaw17_Graph.b3 a0 ns one (out, t, (i : Int)) = some (.inl (out' ++ [x], t', ((i + 1 : Nat) : Int))) := by
        unfold f_plenumlaw17_Graph.b3
        simp only [if_pos c, Option.bind_some, decide_eq_true_eq, hK, e1]
        rw [if_pos (by omega), if_pos (by omega), if_pos (by omega), k1]
        simp only [Option.bind_some]
        rw [if_pos (by omega), hx]
      rw [loopO_inl hstep]
      refine ih (i + 1) t' (out' ++ [x]) (by omega) k2 (by omega) ?_ (by simp; omega) (by simp; omega)
      intro a y hy
      by_cases ha : a < out'.length
      · rw [List.getElem?_append_left ha] at hy
        have := k5 a y hy
        exact ⟨this.rt, this.nt, by have := this.links; omega, this.routers, this.verts, this.stubs⟩
      · rw [List.getElem?_append_right (by omega)] at hy
        have hlt := (List.getElem?_eq_some_iff.1 hy).1
        simp only [List.length_cons, List.length_nil] at hlt
        have h0 : a - out'.length = 0 := by omega
        rw [h0] at hy
        obtain rfl : x = y := by simpa using hy
        subst hx
        exact ⟨fun q => by omega, fun _ => rfl, Nat.zero_le _, by simp only; omega, rfl, by simp [nst]⟩
    · refine ⟨out, t, (i : Int), loopO_inr ?_, hg.mono (by omega), hl, by omega⟩
      unfold f_plenumlaw17_Graph.b3
      simp only [if_neg c, Option.bind_some, Bool.false_eq_true, if_false]
theorem stub_bits : 0 ≤ bitsF 4294967040 := by
  unfold bitsF
  have h : ∃ n, (List.range' 0 33).find? (bitsP 4294967040) = some n := by
    have : ((List.range' 0 33).find? (bitsP 4294967040)).isSome = true := by decide +kernel
    exact Option.isSome_iff_exists.1 this
  obtain ⟨n, hn⟩ := h
  rw [hn]
  simp
theorem graph4 (a0 : Int) (K : Nat) (hK : IntKind.i64.wrap (1 + (Int.tmod (IntKind.i64.wrap a0) 6)) = (K : Int)) (hK1 : 1 ≤ K) (hK6 : K ≤ 6) (b : Nat) (hb : b ≤ 1000) : ∀ (m r : Nat) (out : List T_api_Lsa), r + m = K → K ≤ out.length → Gi K r (b + r) out →
    ∃ k out', loopO (f_plenumlaw17_Graph.b4 a0) ((r : Int), out) = some (.inl (k, out')) ∧ Gi K K (b + K) out' ∧ out'.length = out.length := by
  intro m
  induction m with
  | zero =>
    intro r out h hl hg
    obtain rfl : r = K := by omega
    refine ⟨(r : Int), out, loopO_inr ?_, hg, rfl⟩
    unfold f_plenumlaw17_Graph.b4
    simp only [hK]
    rw [if_neg (by omega)]
  | succ m ih =>
    intro r out h hl hg
    have e1 : IntKind.i64.wrap ((r : Int) + 1) = ((r + 1 : Nat) : Int) := by rw [w64' (by omega) (by omega)]; omega
    have hr1 : (r : Int) < out.length := by omega
    have hlr := hg.len (a := (r : Int)) (by omega) hr1
    have g1 := hg.upd (r' := r + 1) (a := (r : Int)) (by omega) hr1 (k := (⟨3, shlI .i64 (IntKind.i64.wrap (201 + (r : Int))) 8, 4294967040, IntKind.i64.wrap (1 + (Int.tmod (r : Int) 3))⟩ : T_api_Link)) (.inr ⟨by simp [stubP, stub_bits], by simp, rfl⟩)
    have hstep : f_plenumlaw17_Graph.b4 a0 ((r : Int), out) = some (.inl (((r + 1 : Nat) : Int), setI out (r : Int) (⟨(rd out (r : Int)).f_Head, (rd out (r : Int)).f_Flags, ((rd out (r : Int)).f_Links ++ [(⟨3, shlI .i64 (IntKind.i64.wrap (201 + (r : Int))) 8, 4294967040, IntKind.i64.wrap (1 + (Int.tmod (r : Int) 3))⟩ : T_api_Link)]), (rd out (r : Int)).f_Bits, (rd out (r : Int)).f_Routers, (rd out (r : Int)).f_Verts⟩ : T_api_Lsa))) := by
      unfold f_plenumlaw17_Graph.b4
      simp only [hK, e1]
      rw [if_pos (by omega), if_pos (by omega), if_pos hr1, if_pos (by omega)]
    rw [loopO_inl hstep]
    obtain ⟨k, out', h1, h2, h3⟩ := ih (r + 1) _ (by omega) (by rw [len_setI]; exact hl) (g1.mono (by omega))
    exact ⟨k, out', h1, h2, by rw [h3, len_setI]⟩
theorem graph_ok (a0 : Int) (K : Nat) (hK : IntKind.i64.wrap (1 + (Int.tmod (IntKind.i64.wrap a0) 6)) = (K : Int)) (hK1 : 1 ≤ K) (hK6 : K ≤ 6) (ps ns : List Int) (hps : ∀ x ∈ ps, 0 ≤ x ∧ x ≤ 255) (one : List Bool) : ∃ l, f_plenumlaw17_Graph a0 ps ns one = some l ∧ Gi K K 78 l ∧ K ≤ l.length ∧ l.length ≤ K + 8 := by
  obtain ⟨k0, h0⟩ := graph0 a0 K hK hK6 K 0 (by omega)
  have e0 : (rtrs 0, ((0 : Nat) : Int) + 1) = (([] : List T_api_Lsa), (1 : Int)) := rfl
  rw [e0] at h0
  obtain ⟨t1, i1, o1, h1, p1, p2, p3, p4⟩ := graph1 a0 K hK hK1 hK6 ps hps one 12 0 0 (rtrs K) (by omega) (by omega) (by omega) (rtrs_g K) (by simp [rtrs])
  rw [show ((3 * 0 : Nat) : Int) = 0 from rfl] at h1
  obtain ⟨o2, t2, i2, h2, q1, q2, q3⟩ := graph3 a0 K hK hK1 hK6 ns one 8 0 t1 o1 (by omega) p1 (by omega) p3 (by omega) (by omega)
  rw [show ((0 : Nat) : Int) = 0 from rfl] at h2
  obtain ⟨k4, o4, h4, r1, r2⟩ := graph4 a0 K hK hK1 hK6 72 (by omega) K 0 o2 (by omega) q2 q1
  rw [show ((0 : Nat) : Int) = 0 from rfl] at h4
  refine ⟨o4, ?_, r1.mono (by omega), by omega, by omega⟩
  unfold f_plenumlaw17_Graph
  rw [h0]
  simp only [Option.bind_some]
  rw [h1]
  simp only [Option.bind_some]
  rw [h2]
  simp only [Option.bind_some]
  rw [h4]
  rfl
end Go.Proofs.Ytbjnbjgiidcfjaa
