/- The plain part of PairNil: a pair that there is not. -/
import Derived.Test.YtkoehaadlkggoaaRRRRR
import Derived.Test.YtkoehaadlkggoaaRRRRPl
set_option linter.unusedVariables false
namespace Go.Proofs.YtkoehaadlkggoaaRRRR
open Go Go.Proofs.YtkoehaadlkggoaaRRRR.Sp
theorem ints_nil : f_plenumref1_Ints [] [] = some true := by
  unfold f_plenumref1_Ints
  rw [loopO_eq]; rfl
theorem heads_nil : f_plenumref1_Heads [] [] = some true := by
  unfold f_plenumref1_Heads
  rw [loopO_eq]; rfl
theorem keys_nil : f_plenumref1_Keys [] [] = some true := by
  unfold f_plenumref1_Keys
  rw [loopO_eq]; rfl
theorem lsas_nil : f_plenumref1_Lsas [] [] = some true := by
  unfold f_plenumref1_Lsas
  rw [loopO_eq]; rfl
theorem same_none : f_plenumref1_SamePacket (⟨0, 0, 0, 0, 0, 0, [], 0, 0, [], [], []⟩ : T_api_Packet) (⟨0, 0, 0, 0, 0, 0, [], 0, 0, [], [], []⟩ : T_api_Packet) = some true := by
  simp [f_plenumref1_SamePacket, ints_nil, heads_nil, keys_nil, lsas_nil]
theorem awake_true : f_plenumlaw13_awake = some true := by rfl
theorem pure_PairNil : PairNil.Pure := by
  intro a0 a1 _ _
  simp [f_plenumlaw13_PairNil, f_pair_Pair_Tick_nil, f_pair_Pair_Take_nil_nil, f_pair_Pair_State_nil, f_pair_Pair_Wants_nil, f_pair_Pair_Again_nil, f_pair_Pair_Met_nil, same_none, awake_true]
theorem PairNil_holds : Rows.PairNilSaid := PairNil_row pure_PairNil
end Go.Proofs.YtkoehaadlkggoaaRRRR
