/- The plain part of TopoMembers. Conditions: none. -/
import Derived.Test.YtbjnbjgiidcfjaaUT3
import Derived.Test.YtbjnbjgiidcfjaaR
set_option linter.unusedVariables false
set_option linter.unusedSimpArgs false
namespace Go.Proofs.Ytbjnbjgiidcfjaa
open Go Go.Proofs.Ytbjnbjgiidcfjaa.Sp
abbrev n1_ : T_api_Lsa := ⟨(⟨0, 2, 1, 2, 0, 0, 0⟩ : T_api_Head), 0, [], 24, [], []⟩
abbrev n2_ : T_api_Lsa := ⟨(⟨0, 2, 3, 3, 0, 0, 0⟩ : T_api_Head), 0, [], 24, [], []⟩
abbrev g_ (g a : Int) (v : T_api_Vert) : T_api_Lsa := ⟨(⟨0, 6, g, a, 0, 0, 0⟩ : T_api_Head), 0, [], 0, [], [v]⟩
theorem members3 (g a : Int) (v : T_api_Vert) (h : Int) : f_topo_Members ([n1_, n2_] ++ [g_ g a v]) h = some (if g = h ∧ memP [n1_, n2_] (g_ g a v) v = true then [v] else []) := by
  obtain ⟨N, G, k1, k2, k3, k4, k0, k5⟩ := members_ok ([n1_, n2_] ++ [g_ g a v]) h ⟨by simp, by simp⟩
  have e1 : ([n1_, n2_] ++ [g_ g a v]).filter (liveP 2) = [n1_, n2_] := by simp [liveP]
  have e2 : ([n1_, n2_] ++ [g_ g a v]).filter (liveP 6) = [g_ g a v] := by simp [liveP]
  rw [e1] at k1
  rw [e2] at k3
  obtain rfl := List.perm_singleton.1 k3
  have hany : ∀ x u, memP N x u = memP [n1_, n2_] x u := by
    intro x u
    unfold memP
    split
    · rfl
    · split
      · rw [Bool.eq_iff_iff, List.any_eq_true, List.any_eq_true]
        exact ⟨fun ⟨y, hy, h⟩ => ⟨y, k1.subset hy, h⟩, fun ⟨y, hy, h⟩ => ⟨y, k1.symm.subset hy, h⟩⟩
      · rfl
  have hraw : [g_ g a v].flatMap (rawX N h) = if g = h ∧ memP [n1_, n2_] (g_ g a v) v = true then [v] else [] := by
    simp only [List.flatMap_cons, List.flatMap_nil, List.append_nil, rawX]
    by_cases hg : g = h
    · subst hg
      rw [if_pos rfl]
      have := hany (g_ g a v) v
      cases hm : memP [n1_, n2_] (g_ g a v) v with
      | true => rw [hm] at this; simp [this]
      | false => rw [hm] at this; simp [this]
    · rw [if_neg hg, if_neg (fun c => hg c.1)]
  have k6 := membersF_up N [g_ g a v] h (by omega)
  rw [hraw] at k6
  rw [k5]
  congr 1
  refine up_eq _ _ k6.1 ?_ k6.2
  split <;> simp [UpV]
theorem ofInt_wrap (m : Int) : BitVec.ofInt 64 (IntKind.i64.wrap m) = BitVec.ofInt 64 m := by
  apply BitVec.eq_of_toNat_eq
  rw [BitVec.toNat_ofInt, BitVec.toNat_ofInt]
  congr 1
  simp only [IntKind.wrap, IntKind.signed, IntKind.bits]
  simp
  omega
theorem xor1_ne (g : Int) : ¬ g = bits .xor .i64 g 1 := by
  intro h
  have h2 := congrArg (BitVec.ofInt 64) h
  unfold bits at h2
  simp only [IntKind.bits] at h2
  rw [ofInt_wrap] at h2
  generalize BitVec.ofInt 64 g = b at h2
  have h3 : BitVec.ofInt 64 (((b ^^^ BitVec.ofInt 64 1).toNat : Nat) : Int) = b ^^^ BitVec.ofInt 64 1 := by
    apply BitVec.eq_of_toNat_eq
    rw [BitVec.toNat_ofInt]
    have := (b ^^^ BitVec.ofInt 64 1).isLt
    omega
  have h2 : b = BitVec.ofInt 64 (((b ^^^ BitVec.ofInt 64 1 : BitVec 64).toNat : Nat) : Int) := h2
  rw [h3] at h2
  have h4 := congrArg (fun z => b ^^^ z) h2
  simp only [← BitVec.xor_assoc, BitVec.xor_self, BitVec.zero_xor] at h4
  exact absurd h4 (by decide)
theorem pure_TopoMembers : TopoMembers.Pure := by
  intro a0 a1 a2 a3 h0 h1 h2 h3
  have u1 := inI_u8 h1
  have u2 := inI_u8 h2
  have w1 : IntKind.i64.wrap (1 + Int.tmod (IntKind.i64.wrap a1) 5) = 1 + a1 % 5 := by
    rw [w64' (x := a1) (by omega) (by omega), Int.tmod_eq_emod_of_nonneg (by omega), w64' (by omega) (by omega)]
  have w2 : IntKind.i64.wrap (1 + Int.tmod (IntKind.i64.wrap a2) 5) = 1 + a2 % 5 := by
    rw [w64' (x := a2) (by omega) (by omega), Int.tmod_eq_emod_of_nonneg (by omega), w64' (by omega) (by omega)]
  unfold f_plenumlaw17_TopoMembers
  simp only [w1, w2]
  generalize hg : bits .or .i64 3758096384 (bits .and .i64 (IntKind.i64.wrap a0) 268435455) = g
  generalize ha : 1 + a1 % 5 = a
  generalize hx : 1 + a2 % 5 = x
  have hne : ¬ g = bits .xor .i64 g 1 := xor1_ne g
  have step : ∀ (w : Bool) (k : Int), memP [n1_, n2_] (g_ g a ⟨k, x⟩) ⟨k, x⟩ = w →
      ((f_topo_Members ([n1_, n2_] ++ [g_ g a ⟨k, x⟩]) g).bind fun t1 => (if ((decide ((t1.length : Int) = 1)) == w) = true then (if w = true then (if 0 < (t1.length : Int) then (if (rd t1 0) = (⟨k, x⟩ : T_api_Vert) then ((f_topo_Members ([n1_, n2_] ++ [g_ g a ⟨k, x⟩]) (bits .xor .i64 g 1)).bind fun t6 => (if (t6.length : Int) = 0 then ((f_plenumlaw17_awake).bind fun t7 => some t7) else some false)) else some false) else none) else ((f_topo_Members ([n1_, n2_] ++ [g_ g a ⟨k, x⟩]) (bits .xor .i64 g 1)).bind fun t8 => (if (t8.length : Int) = 0 then ((f_plenumlaw17_awake).bind fun t9 => some t9) else some false))) else some false)) = some true := by
    intro w k hw
    have q2 := members3 g a ⟨k, x⟩ (bits .xor .i64 g 1)
    rw [if_neg (fun c => hne c.1)] at q2
    rw [members3, q2, hw, awake_ok]
    cases w with
    | true => simp [rd]
    | false => simp
  cases a3 with
  | false =>
    rw [if_neg (by simp)]
    simp only [Option.bind_some]
    exact step _ 1 (by simp [memP, eq_comm])
  | true =>
    rw [if_pos rfl]
    by_cases c1 : x = 1
    · by_cases c2 : a = 2
      · rw [if_pos c1, if_pos c2]
        simp only [Option.bind_some]
        exact step true 2 (by simp [memP, c1, c2])
      · rw [if_pos c1, if_neg c2, if_neg (by omega)]
        simp only [Option.bind_some]
        exact step false 2 (by simp [memP, c1]; omega)
    · by_cases c3 : x = 3
      · rw [if_neg c1, if_pos c3]
        simp only [Option.bind_some]
        exact step _ 2 (by simp [memP, c3, eq_comm])
      · rw [if_neg c1, if_neg c3]
        simp only [Option.bind_some]
        exact step false 2 (by simp [memP]; omega)
theorem TopoMembers_holds : Rows.TopoMembersSaid := TopoMembers_row pure_TopoMembers
end Go.Proofs.Ytbjnbjgiidcfjaa
