/- Chapter 17, plain: the examples. Conditions: none. -/
import Derived.Test.YtbjnbjgiidcfjaaUT2
set_option linter.unusedVariables false
set_option linter.unusedSectionVars false
set_option linter.unusedSimpArgs false
namespace Go.Proofs.Ytbjnbjgiidcfjaa
open Go Go.Proofs.Ytbjnbjgiidcfjaa.Sp
theorem awake_ok : f_plenumlaw17_awake = some true := by
  obtain ⟨C1, C2, h1, _, h2, _, h3⟩ := map_ok [] ⟨by simp, by simp⟩
  obtain ⟨D1, D2, k1, _, k2, _, k3⟩ := map_ok [(⟨(⟨0, 1, 3, 3, 0, 0, 0⟩ : T_api_Head), 0, [], 0, [], []⟩ : T_api_Lsa)] ⟨by simp, by simp⟩
  obtain rfl : C1 = [] := by simpa using h1
  obtain rfl : C2 = [] := by simpa using h2
  have e1 : [(⟨(⟨0, 1, 3, 3, 0, 0, 0⟩ : T_api_Head), 0, [], 0, [], []⟩ : T_api_Lsa)].filter (liveP 1) = [(⟨(⟨0, 1, 3, 3, 0, 0, 0⟩ : T_api_Head), 0, [], 0, [], []⟩ : T_api_Lsa)] := by decide
  have e2 : [(⟨(⟨0, 1, 3, 3, 0, 0, 0⟩ : T_api_Head), 0, [], 0, [], []⟩ : T_api_Lsa)].filter (liveP 2) = [] := by decide
  rw [e1] at k1
  rw [e2] at k2
  obtain rfl := List.perm_singleton.1 k1
  obtain rfl : D2 = [] := by simpa using k2
  unfold f_plenumlaw17_awake
  rw [h3, k3]
  simp only [Option.bind_some]
  have f1 : (mapF (cpt eI (([] : List T_api_Lsa).filter ownP_)) (cpt eI [])).f_Verts = [] := rfl
  have f2 : (mapF (cpt eI ([(⟨(⟨0, 1, 3, 3, 0, 0, 0⟩ : T_api_Head), 0, [], 0, [], []⟩ : T_api_Lsa)].filter ownP_)) (cpt eI [])).f_Verts = [⟨1, 3⟩] := rfl
  rw [f1, f2, if_pos (by simp), if_pos (by simp), if_pos (by simp)]
  simp [rd]
end Go.Proofs.Ytbjnbjgiidcfjaa
