/- Sorting, plain: the walked functions with type and comparison left open; insertion. Conditions: none. -/
import Derived.Test.YtbjnbjgiidcfjaaPl
import Derived.Test.YtbjnbjgiidcfjaaSp18
set_option linter.unusedVariables false
set_option linter.unusedSectionVars false
set_option linter.unusedSimpArgs false
namespace Go.Proofs.Ytbjnbjgiidcfjaa
open Go Go.Proofs.Ytbjnbjgiidcfjaa.Sp
noncomputable def gIns_b0 {α : Type} [Inhabited α] (cmp : α → α → Option Int) (a1 : Int) (s12 : Int × (List α)) : Option (Sum (Int × (List α)) (Sum (Int × (List α)) (List α))) := ((((if a1 < s12.1 then (if 0 ≤ s12.1 then (if s12.1 < (s12.2.length : Int) then (if 0 ≤ (IntKind.i64.wrap (s12.1 - 1)) then (if (IntKind.i64.wrap (s12.1 - 1)) < (s12.2.length : Int) then ((cmp (rd s12.2 s12.1) (rd s12.2 (IntKind.i64.wrap (s12.1 - 1)))).bind fun t36 => some (.inl (decide (t36 < 0)))) else none) else none) else none) else none) else some (.inl false)) : Option (Sum (Bool) (List α)))).bind fun y17 => match y17 with | .inl s13 => (if s13 = true then (if 0 ≤ (IntKind.i64.wrap (s12.1 - 1)) then (if (IntKind.i64.wrap (s12.1 - 1)) < (s12.2.length : Int) then (if 0 ≤ s12.1 then (if s12.1 < (s12.2.length : Int) then (if (IntKind.i64.wrap (s12.1 - 1)) < ((setI s12.2 s12.1 (rd s12.2 (IntKind.i64.wrap (s12.1 - 1)))).length : Int) then some (.inl (IntKind.i64.wrap (s12.1 - 1), setI (setI s12.2 s12.1 (rd s12.2 (IntKind.i64.wrap (s12.1 - 1)))) (IntKind.i64.wrap (s12.1 - 1)) (rd s12.2 s12.1))) else none) else none) else none) else none) else none) else some (.inr (.inl (s12.1, s12.2)))) | .inr r_ => some (.inr (.inr r_)))
noncomputable def gIns_b1 {α : Type} [Inhabited α] (cmp : α → α → Option Int) (a1 : Int) (a2 : Int) (s9 : Int × (List α)) : Option (Sum (Int × (List α)) (Sum (Int × (List α)) (List α))) := (if s9.1 < a2 then ((loopO (gIns_b0 cmp a1) (s9.1, s9.2)).bind fun y15 => match y15 with | .inl s12 => some (.inl (IntKind.i64.wrap (s9.1 + 1), s12.2)) | .inr r_ => some (.inr (.inr r_))) else some (.inr (.inl (s9.1, s9.2))))
noncomputable def gIns {α : Type} [Inhabited α] (cmp : α → α → Option Int) (a0 : List α) (a1 : Int) (a2 : Int) : Option (List α) := ((loopO (gIns_b1 cmp a1 a2) (IntKind.i64.wrap (a1 + 1), a0)).bind fun y11 => match y11 with | .inl s9 => some s9.2 | .inr r_ => some r_)
noncomputable def gSwap_b0 {α : Type} [Inhabited α] (cmp : α → α → Option Int) (a1 : Int) (a2 : Int) (a3 : Int) (s1 : Int × (List α)) : Option (Sum (Int × (List α)) (Sum (Int × (List α)) (List α))) := (if s1.1 < a3 then (if 0 ≤ (IntKind.i64.wrap (a2 + s1.1)) then (if (IntKind.i64.wrap (a2 + s1.1)) < (s1.2.length : Int) then (if 0 ≤ (IntKind.i64.wrap (a1 + s1.1)) then (if (IntKind.i64.wrap (a1 + s1.1)) < (s1.2.length : Int) then (if (IntKind.i64.wrap (a2 + s1.1)) < ((setI s1.2 (IntKind.i64.wrap (a1 + s1.1)) (rd s1.2 (IntKind.i64.wrap (a2 + s1.1)))).length : Int) then some (.inl (IntKind.i64.wrap (s1.1 + 1), setI (setI s1.2 (IntKind.i64.wrap (a1 + s1.1)) (rd s1.2 (IntKind.i64.wrap (a2 + s1.1)))) (IntKind.i64.wrap (a2 + s1.1)) (rd s1.2 (IntKind.i64.wrap (a1 + s1.1))))) else none) else none) else none) else none) else none) else some (.inr (.inl (s1.1, s1.2))))
noncomputable def gSwap {α : Type} [Inhabited α] (cmp : α → α → Option Int) (a0 : List α) (a1 : Int) (a2 : Int) (a3 : Int) : Option (List α) := ((loopO (gSwap_b0 cmp a1 a2 a3) (0, a0)).bind fun y1 => match y1 with | .inl s1 => some s1.2 | .inr r_ => some r_)
noncomputable def gRot_b0 {α : Type} [Inhabited α] (cmp : α → α → Option Int) (a2 : Int) (s1 : Int × Int × (List α)) : Option (Sum (Int × Int × (List α)) (Sum (Int × Int × (List α)) (List α))) := (if s1.1 = s1.2.1 then some (.inr (.inl (s1.1, s1.2.1, s1.2.2))) else (if s1.2.1 < s1.1 then ((gSwap cmp s1.2.2 (IntKind.i64.wrap (a2 - s1.1)) a2 s1.2.1).bind fun t5 => (if t5.length = s1.2.2.length then some (.inl (IntKind.i64.wrap (s1.1 - s1.2.1), s1.2.1, t5)) else none)) else ((gSwap cmp s1.2.2 (IntKind.i64.wrap (a2 - s1.1)) (IntKind.i64.wrap ((IntKind.i64.wrap (a2 + s1.2.1)) - s1.1)) s1.1).bind fun t6 => (if t6.length = s1.2.2.length then some (.inl (s1.1, IntKind.i64.wrap (s1.2.1 - s1.1), t6)) else none))))
noncomputable def gRot {α : Type} [Inhabited α] (cmp : α → α → Option Int) (a0 : List α) (a1 : Int) (a2 : Int) (a3 : Int) : Option (List α) := ((loopO (gRot_b0 cmp a2) (IntKind.i64.wrap (a2 - a1), IntKind.i64.wrap (a3 - a2), a0)).bind fun y1 => match y1 with | .inl s1 => ((gSwap cmp s1.2.2 (IntKind.i64.wrap (a2 - s1.1)) a2 s1.1).bind fun t7 => (if t7.length = s1.2.2.length then some t7 else none)) | .inr r_ => some r_)
noncomputable def gSym_b0 {α : Type} [Inhabited α] (cmp : α → α → Option Int) (a0 : List α) (a1 : Int) (s1 : Int × Int) : Option (Sum (Int × Int) (Sum (Int × Int) (List α))) := (if s1.1 < s1.2 then (if 0 ≤ (IntKind.i64.wrap (shrI .u64 (IntKind.u64.wrap (IntKind.i64.wrap (s1.1 + s1.2))) 1)) then (if (IntKind.i64.wrap (shrI .u64 (IntKind.u64.wrap (IntKind.i64.wrap (s1.1 + s1.2))) 1)) < (a0.length : Int) then (if 0 ≤ a1 then (if a1 < (a0.length : Int) then ((cmp (rd a0 (IntKind.i64.wrap (shrI .u64 (IntKind.u64.wrap (IntKind.i64.wrap (s1.1 + s1.2))) 1))) (rd a0 a1)).bind fun t6 => (if t6 < 0 then some (.inl (IntKind.i64.wrap ((IntKind.i64.wrap (shrI .u64 (IntKind.u64.wrap (IntKind.i64.wrap (s1.1 + s1.2))) 1)) + 1), s1.2)) else some (.inl (s1.1, IntKind.i64.wrap (shrI .u64 (IntKind.u64.wrap (IntKind.i64.wrap (s1.1 + s1.2))) 1))))) else none) else none) else none) else none) else some (.inr (.inl (s1.1, s1.2))))
noncomputable def gSym_b1 {α : Type} [Inhabited α] (cmp : α → α → Option Int) (s1 : Int × Int) (s2 : Int × (List α)) : Option (Sum (Int × (List α)) (Sum (Int × (List α)) (List α))) := (if s2.1 < (IntKind.i64.wrap (s1.1 - 1)) then (if 0 ≤ (IntKind.i64.wrap (s2.1 + 1)) then (if (IntKind.i64.wrap (s2.1 + 1)) < (s2.2.length : Int) then (if 0 ≤ s2.1 then (if s2.1 < (s2.2.length : Int) then (if (IntKind.i64.wrap (s2.1 + 1)) < ((setI s2.2 s2.1 (rd s2.2 (IntKind.i64.wrap (s2.1 + 1)))).length : Int) then some (.inl (IntKind.i64.wrap (s2.1 + 1), setI (setI s2.2 s2.1 (rd s2.2 (IntKind.i64.wrap (s2.1 + 1)))) (IntKind.i64.wrap (s2.1 + 1)) (rd s2.2 s2.1))) else none) else none) else none) else none) else none) else some (.inr (.inl (s2.1, s2.2))))
noncomputable def gSym_b2 {α : Type} [Inhabited α] (cmp : α → α → Option Int) (a0 : List α) (a2 : Int) (s3 : Int × Int) : Option (Sum (Int × Int) (Sum (Int × Int) (List α))) := (if s3.1 < s3.2 then (if 0 ≤ a2 then (if a2 < (a0.length : Int) then (if 0 ≤ (IntKind.i64.wrap (shrI .u64 (IntKind.u64.wrap (IntKind.i64.wrap (s3.1 + s3.2))) 1)) then (if (IntKind.i64.wrap (shrI .u64 (IntKind.u64.wrap (IntKind.i64.wrap (s3.1 + s3.2))) 1)) < (a0.length : Int) then ((cmp (rd a0 a2) (rd a0 (IntKind.i64.wrap (shrI .u64 (IntKind.u64.wrap (IntKind.i64.wrap (s3.1 + s3.2))) 1)))).bind fun t12 => (if t12 < 0 then some (.inl (s3.1, IntKind.i64.wrap (shrI .u64 (IntKind.u64.wrap (IntKind.i64.wrap (s3.1 + s3.2))) 1))) else some (.inl (IntKind.i64.wrap ((IntKind.i64.wrap (shrI .u64 (IntKind.u64.wrap (IntKind.i64.wrap (s3.1 + s3.2))) 1)) + 1), s3.2)))) else none) else none) else none) else none) else some (.inr (.inl (s3.1, s3.2))))
noncomputable def gSym_b3 {α : Type} [Inhabited α] (cmp : α → α → Option Int) (s3 : Int × Int) (s4 : Int × (List α)) : Option (Sum (Int × (List α)) (Sum (Int × (List α)) (List α))) := (if s3.1 < s4.1 then (if 0 ≤ (IntKind.i64.wrap (s4.1 - 1)) then (if (IntKind.i64.wrap (s4.1 - 1)) < (s4.2.length : Int) then (if 0 ≤ s4.1 then (if s4.1 < (s4.2.length : Int) then (if (IntKind.i64.wrap (s4.1 - 1)) < ((setI s4.2 s4.1 (rd s4.2 (IntKind.i64.wrap (s4.1 - 1)))).length : Int) then some (.inl (IntKind.i64.wrap (s4.1 - 1), setI (setI s4.2 s4.1 (rd s4.2 (IntKind.i64.wrap (s4.1 - 1)))) (IntKind.i64.wrap (s4.1 - 1)) (rd s4.2 s4.1))) else none) else none) else none) else none) else none) else some (.inr (.inl (s4.1, s4.2))))
noncomputable def gSym_b4 {α : Type} [Inhabited α] (cmp : α → α → Option Int) (a0 : List α) (a1 : Int) (a2 : Int) (a3 : Int) (s6 : Int × Int) : Option (Sum (Int × Int) (Sum (Int × Int) (List α))) := (if s6.1 < s6.2 then (if 0 ≤ (IntKind.i64.wrap ((IntKind.i64.wrap ((IntKind.i64.wrap ((IntKind.i64.wrap (shrI .u64 (IntKind.u64.wrap (IntKind.i64.wrap (a1 + a3))) 1)) + a2)) - 1)) - (IntKind.i64.wrap (shrI .u64 (IntKind.u64.wrap (IntKind.i64.wrap (s6.1 + s6.2))) 1)))) then (if (IntKind.i64.wrap ((IntKind.i64.wrap ((IntKind.i64.wrap ((IntKind.i64.wrap (shrI .u64 (IntKind.u64.wrap (IntKind.i64.wrap (a1 + a3))) 1)) + a2)) - 1)) - (IntKind.i64.wrap (shrI .u64 (IntKind.u64.wrap (IntKind.i64.wrap (s6.1 + s6.2))) 1)))) < (a0.length : Int) then (if 0 ≤ (IntKind.i64.wrap (shrI .u64 (IntKind.u64.wrap (IntKind.i64.wrap (s6.1 + s6.2))) 1)) then (if (IntKind.i64.wrap (shrI .u64 (IntKind.u64.wrap (IntKind.i64.wrap (s6.1 + s6.2))) 1)) < (a0.length : Int) then ((cmp (rd a0 (IntKind.i64.wrap ((IntKind.i64.wrap ((IntKind.i64.wrap ((IntKind.i64.wrap (shrI .u64 (IntKind.u64.wrap (IntKind.i64.wrap (a1 + a3))) 1)) + a2)) - 1)) - (IntKind.i64.wrap (shrI .u64 (IntKind.u64.wrap (IntKind.i64.wrap (s6.1 + s6.2))) 1))))) (rd a0 (IntKind.i64.wrap (shrI .u64 (IntKind.u64.wrap (IntKind.i64.wrap (s6.1 + s6.2))) 1)))).bind fun t18 => (if t18 < 0 then some (.inl (s6.1, IntKind.i64.wrap (shrI .u64 (IntKind.u64.wrap (IntKind.i64.wrap (s6.1 + s6.2))) 1))) else some (.inl (IntKind.i64.wrap ((IntKind.i64.wrap (shrI .u64 (IntKind.u64.wrap (IntKind.i64.wrap (s6.1 + s6.2))) 1)) + 1), s6.2)))) else none) else none) else none) else none) else some (.inr (.inl (s6.1, s6.2))))
noncomputable def gSym {α : Type} [Inhabited α] (cmp : α → α → Option Int) : Nat → (List α) → Int → Int → Int → Option (List α)
  | 0, _, _, _, _ => none
  | k_ + 1, a0, a1, a2, a3 => (if (IntKind.i64.wrap (a2 - a1)) = 1 then ((loopO (gSym_b0 cmp a0 a1) (a2, a3)).bind fun y1 => match y1 with | .inl s1 => ((loopO (gSym_b1 cmp s1) (a1, a0)).bind fun y3 => match y3 with | .inl s2 => some s2.2 | .inr r_ => some r_) | .inr r_ => some r_) else (if (IntKind.i64.wrap (a3 - a2)) = 1 then ((loopO (gSym_b2 cmp a0 a2) (a1, a2)).bind fun y5 => match y5 with | .inl s3 => ((loopO (gSym_b3 cmp s3) (a2, a0)).bind fun y7 => match y7 with | .inl s4 => some s4.2 | .inr r_ => some r_) | .inr r_ => some r_) else ((((if (IntKind.i64.wrap (shrI .u64 (IntKind.u64.wrap (IntKind.i64.wrap (a1 + a3))) 1)) < a2 then some (.inl (IntKind.i64.wrap ((IntKind.i64.wrap ((IntKind.i64.wrap (shrI .u64 (IntKind.u64.wrap (IntKind.i64.wrap (a1 + a3))) 1)) + a2)) - a3), IntKind.i64.wrap (shrI .u64 (IntKind.u64.wrap (IntKind.i64.wrap (a1 + a3))) 1))) else some (.inl (a1, a2))) : Option (Sum (Int × Int) (List α)))).bind fun y9 => match y9 with | .inl s5 => ((loopO (gSym_b4 cmp a0 a1 a2 a3) (s5.1, s5.2)).bind fun y10 => match y10 with | .inl s6 => ((((if s6.1 < a2 then some (.inl (decide (a2 < (IntKind.i64.wrap ((IntKind.i64.wrap ((IntKind.i64.wrap (shrI .u64 (IntKind.u64.wrap (IntKind.i64.wrap (a1 + a3))) 1)) + a2)) - s6.1))))) else some (.inl false)) : Option (Sum (Bool) (List α)))).bind fun y12 => match y12 with | .inl s7 => ((((if s7 = true then ((gRot cmp a0 s6.1 a2 (IntKind.i64.wrap ((IntKind.i64.wrap ((IntKind.i64.wrap (shrI .u64 (IntKind.u64.wrap (IntKind.i64.wrap (a1 + a3))) 1)) + a2)) - s6.1))).bind fun t20 => (if t20.length = a0.length then some (.inl t20) else none)) else some (.inl a0)) : Option (Sum ((List α)) (List α)))).bind fun y13 => match y13 with | .inl s8 => ((((if a1 < s6.1 then some (.inl (decide (s6.1 < (IntKind.i64.wrap (shrI .u64 (IntKind.u64.wrap (IntKind.i64.wrap (a1 + a3))) 1))))) else some (.inl false)) : Option (Sum (Bool) (List α)))).bind fun y14 => match y14 with | .inl s9 => (if s9 = true then (((gSym cmp k_) s8 a1 s6.1 (IntKind.i64.wrap (shrI .u64 (IntKind.u64.wrap (IntKind.i64.wrap (a1 + a3))) 1))).bind fun t21 => (if t21.length = s8.length then (if (IntKind.i64.wrap (shrI .u64 (IntKind.u64.wrap (IntKind.i64.wrap (a1 + a3))) 1)) < (IntKind.i64.wrap ((IntKind.i64.wrap ((IntKind.i64.wrap (shrI .u64 (IntKind.u64.wrap (IntKind.i64.wrap (a1 + a3))) 1)) + a2)) - s6.1)) then (if (IntKind.i64.wrap ((IntKind.i64.wrap ((IntKind.i64.wrap (shrI .u64 (IntKind.u64.wrap (IntKind.i64.wrap (a1 + a3))) 1)) + a2)) - s6.1)) < a3 then (((gSym cmp k_) t21 (IntKind.i64.wrap (shrI .u64 (IntKind.u64.wrap (IntKind.i64.wrap (a1 + a3))) 1)) (IntKind.i64.wrap ((IntKind.i64.wrap ((IntKind.i64.wrap (shrI .u64 (IntKind.u64.wrap (IntKind.i64.wrap (a1 + a3))) 1)) + a2)) - s6.1)) a3).bind fun t22 => (if t22.length = t21.length then some t22 else none)) else some t21) else some t21) else none)) else (if (IntKind.i64.wrap (shrI .u64 (IntKind.u64.wrap (IntKind.i64.wrap (a1 + a3))) 1)) < (IntKind.i64.wrap ((IntKind.i64.wrap ((IntKind.i64.wrap (shrI .u64 (IntKind.u64.wrap (IntKind.i64.wrap (a1 + a3))) 1)) + a2)) - s6.1)) then (if (IntKind.i64.wrap ((IntKind.i64.wrap ((IntKind.i64.wrap (shrI .u64 (IntKind.u64.wrap (IntKind.i64.wrap (a1 + a3))) 1)) + a2)) - s6.1)) < a3 then (((gSym cmp k_) s8 (IntKind.i64.wrap (shrI .u64 (IntKind.u64.wrap (IntKind.i64.wrap (a1 + a3))) 1)) (IntKind.i64.wrap ((IntKind.i64.wrap ((IntKind.i64.wrap (shrI .u64 (IntKind.u64.wrap (IntKind.i64.wrap (a1 + a3))) 1)) + a2)) - s6.1)) a3).bind fun t23 => (if t23.length = s8.length then some t23 else none)) else some s8) else some s8)) | .inr r_ => some r_) | .inr r_ => some r_) | .inr r_ => some r_) | .inr r_ => some r_) | .inr r_ => some r_)))
noncomputable def gSt_b0 {α : Type} [Inhabited α] (cmp : α → α → Option Int) (a1 : Int) (s1 : Int × Int × (List α)) : Option (Sum (Int × Int × (List α)) (Sum (Int × Int × (List α)) (List α))) := (if s1.2.1 ≤ a1 then ((gIns cmp s1.2.2 s1.1 s1.2.1).bind fun t3 => (if t3.length = s1.2.2.length then some (.inl (s1.2.1, IntKind.i64.wrap (s1.2.1 + 20), t3)) else none)) else some (.inr (.inl (s1.1, s1.2.1, s1.2.2))))
noncomputable def gSt_b1 {α : Type} [Inhabited α] (cmp : α → α → Option Int) (a1 : Int) (s4 : Int × (List α)) (s5 : Int × Int × (List α)) : Option (Sum (Int × Int × (List α)) (Sum (Int × Int × (List α)) (List α))) := (if s5.2.1 ≤ a1 then ((gSym cmp 64 s5.2.2 s5.1 (IntKind.i64.wrap (s5.1 + s4.1)) s5.2.1).bind fun t15 => (if t15.length = s5.2.2.length then some (.inl (s5.2.1, IntKind.i64.wrap (s5.2.1 + (IntKind.i64.wrap (2 * s4.1))), t15)) else none)) else some (.inr (.inl (s5.1, s5.2.1, s5.2.2))))
noncomputable def gSt_b2 {α : Type} [Inhabited α] (cmp : α → α → Option Int) (a1 : Int) (s4 : Int × (List α)) : Option (Sum (Int × (List α)) (Sum (Int × (List α)) (List α))) := (if s4.1 < a1 then ((loopO (gSt_b1 cmp a1 s4) (0, IntKind.i64.wrap (2 * s4.1), s4.2)).bind fun y9 => match y9 with | .inl s5 => (if (IntKind.i64.wrap (s5.1 + s4.1)) < a1 then ((gSym cmp 64 s5.2.2 s5.1 (IntKind.i64.wrap (s5.1 + s4.1)) a1).bind fun t16 => (if t16.length = s5.2.2.length then some (.inl (IntKind.i64.wrap (s4.1 * 2), t16)) else none)) else some (.inl (IntKind.i64.wrap (s4.1 * 2), s5.2.2))) | .inr r_ => some (.inr (.inr r_))) else some (.inr (.inl (s4.1, s4.2))))
noncomputable def gSt {α : Type} [Inhabited α] (cmp : α → α → Option Int) (a0 : List α) (a1 : Int) : Option (List α) := ((loopO (gSt_b0 cmp a1) (0, 20, a0)).bind fun y1 => match y1 with | .inl s1 => ((gIns cmp s1.2.2 s1.1 a1).bind fun t4 => (if t4.length = s1.2.2.length then ((loopO (gSt_b2 cmp a1) (20, t4)).bind fun y7 => match y7 with | .inl s4 => some s4.2 | .inr r_ => some r_) else none)) | .inr r_ => some r_)
noncomputable def gStable {α : Type} [Inhabited α] (cmp : α → α → Option Int) (a0 : List α) : Option (List α) := ((gSt cmp a0 (a0.length : Int)).bind fun t1 => (if t1.length = a0.length then some t1 else none))

/-! ### Lists in parts -/
section
variable {α : Type} [Inhabited α]
theorem rd_mid {pre suf : List α} {x : α} {i : Int} (h : i = pre.length) : rd (pre ++ x :: suf) i = x := by
  subst h; simp [rd]
theorem setI_mid {pre suf : List α} {x y : α} {i : Int} (h : i = pre.length) : setI (pre ++ x :: suf) i y = pre ++ y :: suf := by
  subst h; simp [setI]
/-- Sorted: none stands behind a greater one. -/
def Sd (lt : α → α → Prop) (l : List α) : Prop := l.Pairwise (fun a b => ¬ lt b a)
structure Ord (lt : α → α → Prop) : Prop where
  tr : ∀ a b c, ¬ lt b a → ¬ lt c b → ¬ lt c a
  as : ∀ a b, lt a b → ¬ lt b a
def Cmp (cmp : α → α → Option Int) (lt : α → α → Prop) : Prop := ∀ x y, ∃ n, cmp x y = some n ∧ (n < 0 ↔ lt x y)
theorem Sd.ins {lt : α → α → Prop} (O : Ord lt) {S1 S2 : List α} {x : α} (h : Sd lt (S1 ++ S2)) (h2 : ∀ y ∈ S2, lt x y) (h1 : ∀ y ∈ S1, ¬ lt x y) : Sd lt (S1 ++ x :: S2) := by
  unfold Sd at *
  rw [List.pairwise_append] at h ⊢
  obtain ⟨k1, k2, k3⟩ := h
  refine ⟨k1, List.pairwise_cons.2 ⟨fun y hy => O.as _ _ (h2 y hy), k2⟩, fun a ha b hb => ?_⟩
  rcases List.mem_cons.1 hb with rfl | hb
  · exact h1 a ha
  · exact k3 a ha b hb
/-- What stands in front of one that is not greater is not greater. -/
theorem Sd.le_last {lt : α → α → Prop} (O : Ord lt) {S : List α} {x y : α} (h : Sd lt (S ++ [y])) (hx : ¬ lt x y) : ∀ u ∈ S ++ [y], ¬ lt x u := by
  intro u hu
  unfold Sd at h
  rw [List.pairwise_append] at h
  rcases List.mem_append.1 hu with hu | hu
  · exact O.tr _ _ _ (h.2.2 u hu y (by simp)) hx
  · simp at hu; subst hu; exact hx
theorem Sd.perm_eq {lt : α → α → Prop} (T : ∀ a b, ¬ lt a b → ¬ lt b a → a = b) {l m : List α} (h : Sd lt l) (k : Sd lt m) (hp : l.Perm m) : l = m :=
  hp.eq_of_pairwise (fun a b _ _ h1 h2 => T a b h2 h1) h k
abbrev big : Int := 1099511627776
theorem w64' {x : Int} (h0 : -4398046511104 ≤ x) (h1 : x ≤ 4398046511104) : IntKind.i64.wrap x = x := w64 (by omega) (by omega)
/-! ### Insertion -/
variable {cmp : α → α → Option Int} {lt : α → α → Prop}
theorem ins0 (hc : Cmp cmp lt) (pre : List α) (x : α) : ∀ (n : Nat) (S T : List α), S.length = n → ((pre ++ S ++ x :: T).length : Int) ≤ big →
    ∃ S1 S2 j, loopO (gIns_b0 cmp pre.length) ((pre.length : Int) + S.length, pre ++ S ++ x :: T) = some (.inl (j, pre ++ S1 ++ x :: (S2 ++ T))) ∧ S = S1 ++ S2 ∧ (∀ y ∈ S2, lt x y) ∧ (S1 = [] ∨ ∃ S0 y, S1 = S0 ++ [y] ∧ ¬ lt x y)
  | 0, S, T, hn, hb => by
    obtain rfl := List.length_eq_zero_iff.1 hn
    refine ⟨[], [], _, loopO_inr (r := Sum.inl ((pre.length : Int), pre ++ [] ++ x :: T)) ?_, rfl, by simp, .inl rfl⟩
    unfold gIns_b0
    simp only [List.length_nil]
    rw [if_neg (by omega)]
    simp
  | n + 1, S, T, hn, hb => by
    obtain ⟨S', y, rfl⟩ : ∃ S' y, S = S' ++ [y] := by
      rcases List.eq_nil_or_concat S with h | ⟨S', y, h⟩
      · subst h; simp at hn
      · exact ⟨S', y, by simpa using h⟩
    simp only [List.length_append, List.length_cons, List.length_nil] at hn hb
    have hw : IntKind.i64.wrap ((pre.length : Int) + ((S' ++ [y]).length : Nat) - 1) = (pre.length : Int) + S'.length := by
      rw [w64' (by simp; omega) (by simp only [List.length_append, List.length_cons, List.length_nil, big] at *; omega)]; simp; omega
    have hl : ((pre ++ (S' ++ [y]) ++ x :: T).length : Int) = pre.length + S'.length + 2 + T.length := by simp; omega
    have r1 : rd (pre ++ (S' ++ [y]) ++ x :: T) ((pre.length : Int) + ((S' ++ [y]).length : Nat)) = x := rd_mid (by simp)
    have r2 : rd (pre ++ (S' ++ [y]) ++ x :: T) ((pre.length : Int) + S'.length) = y := by
      have : pre ++ (S' ++ [y]) ++ x :: T = (pre ++ S') ++ y :: (x :: T) := by simp
      rw [this]; exact rd_mid (by simp)
    obtain ⟨n', hcn, hlt⟩ := hc x y
    have e1 : (pre.length : Int) < (pre.length : Int) + ((S' ++ [y]).length : Nat) := by simp; omega
    have e2 : (0 : Int) ≤ (pre.length : Int) + ((S' ++ [y]).length : Nat) := by omega
    have e3 : (pre.length : Int) + ((S' ++ [y]).length : Nat) < ((pre ++ (S' ++ [y]) ++ x :: T).length : Int) := by simp; omega
    have e4 : (0 : Int) ≤ (pre.length : Int) + S'.length := by omega
    have e5 : (pre.length : Int) + S'.length < ((pre ++ (S' ++ [y]) ++ x :: T).length : Int) := by simp; omega
    have s1 : setI (pre ++ (S' ++ [y]) ++ x :: T) ((pre.length : Int) + ((S' ++ [y]).length : Nat)) y = pre ++ (S' ++ [y]) ++ y :: T := setI_mid (by simp)
    have s2 : setI (pre ++ (S' ++ [y]) ++ y :: T) ((pre.length : Int) + S'.length) x = pre ++ S' ++ x :: (y :: T) := by
      have : pre ++ (S' ++ [y]) ++ y :: T = (pre ++ S') ++ y :: (y :: T) := by simp
      rw [this]; exact setI_mid (by simp)
    have e6 : (pre.length : Int) + S'.length < ((pre ++ (S' ++ [y]) ++ y :: T).length : Int) := by simp; omega
    by_cases hq : lt x y
    · have hneg : n' < 0 := hlt.2 hq
      have hstep : gIns_b0 cmp pre.length ((pre.length : Int) + ((S' ++ [y]).length : Nat), pre ++ (S' ++ [y]) ++ x :: T) = some (.inl ((pre.length : Int) + S'.length, pre ++ S' ++ x :: (y :: T))) := by
        unfold gIns_b0
        simp only [hw, r1, r2, hcn, Option.bind_some, s1, s2, hneg, decide_true, if_true, if_pos e1, if_pos e2, if_pos e3, if_pos e4, if_pos e5, if_pos e6]
      obtain ⟨S1, S2, j, h1, h2, h3, h4⟩ := ins0 hc pre x n S' (y :: T) (by omega) (by simp at hb ⊢; omega)
      refine ⟨S1, S2 ++ [y], j, ?_, by rw [h2]; simp, ?_, h4⟩
      · rw [loopO_inl hstep, h1]; simp
      · intro u hu
        rcases List.mem_append.1 hu with hu | hu
        · exact h3 u hu
        · simp at hu; subst hu; exact hq
    · have hneg : ¬ n' < 0 := fun h => hq (hlt.1 h)
      refine ⟨S' ++ [y], [], _, loopO_inr (r := Sum.inl ((pre.length : Int) + ((S' ++ [y]).length : Nat), pre ++ (S' ++ [y]) ++ x :: T)) ?_, by simp, by simp, .inr ⟨S', y, rfl, hq⟩⟩
      unfold gIns_b0
      simp only [hw, r1, r2, hcn, Option.bind_some, hneg, decide_false, if_pos e1, if_pos e2, if_pos e3, if_pos e4, if_pos e5, Bool.false_eq_true, if_false]
theorem ins1 (hc : Cmp cmp lt) (O : Ord lt) (pre post : List α) : ∀ (n : Nat) (S T : List α), T.length = n → Sd lt S → ((pre ++ S ++ (T ++ post)).length : Int) ≤ big →
    ∃ C j, loopO (gIns_b1 cmp pre.length ((pre.length : Int) + S.length + T.length)) ((pre.length : Int) + S.length, pre ++ S ++ (T ++ post)) = some (.inl (j, pre ++ C ++ post)) ∧ C.Perm (S ++ T) ∧ Sd lt C
  | 0, S, T, hn, hs, hb => by
    obtain rfl := List.length_eq_zero_iff.1 hn
    refine ⟨S, _, loopO_inr (r := Sum.inl ((pre.length : Int) + S.length, pre ++ S ++ ([] ++ post))) ?_, by simp, hs⟩
    unfold gIns_b1
    simp
  | n + 1, S, T, hn, hs, hb => by
    obtain ⟨x, T, rfl⟩ : ∃ x T', T = x :: T' := by
      cases T with
      | nil => simp at hn
      | cons x T => exact ⟨x, T, rfl⟩
    simp only [List.length_cons, Nat.add_right_cancel_iff] at hn
    obtain ⟨S1, S2, j, h1, h2, h3, h4⟩ := ins0 hc pre x S.length S (T ++ post) rfl (by simpa using hb)
    subst h2
    have hs' : Sd lt (S1 ++ x :: S2) := by
      refine Sd.ins O hs h3 ?_
      rcases h4 with rfl | ⟨S0, y, rfl, hy⟩
      · simp
      · exact Sd.le_last O ((List.pairwise_append.1 hs).1) hy
    have hw : IntKind.i64.wrap ((pre.length : Int) + ((S1 ++ S2).length : Nat) + 1) = (pre.length : Int) + ((S1 ++ x :: S2).length : Nat) := by
      simp only [List.length_append, List.length_cons, big] at hb ⊢
      rw [w64' (by omega) (by omega)]; omega
    have hstep : gIns_b1 cmp pre.length ((pre.length : Int) + ((S1 ++ S2).length : Nat) + ((x :: T).length : Nat)) ((pre.length : Int) + ((S1 ++ S2).length : Nat), pre ++ (S1 ++ S2) ++ (x :: T ++ post)) = some (.inl ((pre.length : Int) + ((S1 ++ x :: S2).length : Nat), pre ++ (S1 ++ x :: S2) ++ (T ++ post))) := by
      unfold gIns_b1
      simp only [List.cons_append]
      rw [if_pos (by simp; omega), h1]
      simp only [Option.bind_some, hw]
      simp
    obtain ⟨C, j', k1, k2, k3⟩ := ins1 hc O pre post n (S1 ++ x :: S2) T hn hs' (by simp only [List.length_append, List.length_cons] at hb ⊢; omega)
    refine ⟨C, j', ?_, ?_, k3⟩
    · rw [loopO_inl hstep, ← k1]
      congr 2
      simp; omega
    · refine k2.trans ?_
      simp only [List.append_assoc, List.cons_append]
      refine List.Perm.append_left S1 ?_
      exact (List.perm_middle).symm
/-- A part that is sorted by insertion. -/
theorem ins_ok (hc : Cmp cmp lt) (O : Ord lt) (pre mid post : List α) (hb : ((pre ++ mid ++ post).length : Int) ≤ big) :
    ∃ C, gIns cmp (pre ++ mid ++ post) pre.length ((pre.length : Int) + mid.length) = some (pre ++ C ++ post) ∧ C.Perm mid ∧ Sd lt C := by
  have hw : IntKind.i64.wrap ((pre.length : Int) + 1) = (pre.length : Int) + 1 := by
    simp only [List.length_append, big] at hb
    exact w64' (by omega) (by omega)
  cases mid with
  | nil =>
    refine ⟨[], ?_, by simp, by simp [Sd]⟩
    unfold gIns
    rw [loopO_inr (r := Sum.inl (IntKind.i64.wrap ((pre.length : Int) + 1), pre ++ [] ++ post))]
    · rfl
    · unfold gIns_b1
      simp only [hw]
      rw [if_neg (by simp; omega)]
  | cons x T =>
    obtain ⟨C, j, h1, h2, h3⟩ := ins1 hc O pre post T.length [x] T rfl (by simp [Sd]) (by simpa using hb)
    refine ⟨C, ?_, by simpa using h2, h3⟩
    unfold gIns
    rw [hw]
    have e1 : (pre.length : Int) + ((x :: T).length : Nat) = (pre.length : Int) + ([x].length : Nat) + T.length := by simp; omega
    have e2 : pre ++ x :: T ++ post = pre ++ [x] ++ (T ++ post) := by simp
    rw [e1, e2]
    have e3 : (pre.length : Int) + 1 = (pre.length : Int) + ([x].length : Nat) := by simp
    rw [e3, h1]
    rfl
end
end Go.Proofs.Ytbjnbjgiidcfjaa
