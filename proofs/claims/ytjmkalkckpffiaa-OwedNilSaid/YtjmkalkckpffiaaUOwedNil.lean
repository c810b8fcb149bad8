/- The plain part of OwedNil. Conditions: none. -/
import Derived.Test.YtjmkalkckpffiaaUAns0
import Derived.Test.YtjmkalkckpffiaaR
set_option linter.unusedVariables false
set_option linter.unusedSimpArgs false
namespace Go.Proofs.Ytjmkalkckpffiaa
open Go Go.Proofs.Ytjmkalkckpffiaa.Sp
theorem pure_OwedNil : OwedNil.Pure := by
  intro h k _ _
  unfold f_plenumlaw14_OwedNil f_answer_Owed_Add_nil f_answer_Owed_Clear_nil f_answer_Owed_Ack_nil f_answer_Owed_Drop_nil f_answer_Owed_Has_nil f_answer_Owed_Len_nil f_answer_Owed_Tick_nil_nil
  simp only [Option.bind_some, awake_ok, Bool.false_eq_true, if_false, if_true, List.length_nil]
  rfl
theorem OwedNil_holds : Rows.OwedNilSaid := OwedNil_row pure_OwedNil
end Go.Proofs.Ytjmkalkckpffiaa
