/- slices.SortFunc run on the orders of the six normals that end in number 3, one by one. -/
import Derived.Test.YtockpchpaemfgaaGreatDoorKCmp
set_option linter.all false
set_option maxRecDepth 1000000
namespace Go.Proofs.YtockpchpaemfgaaGreatDoor.K
open Go.Ab
theorem p_1_0_3 : forPerms 6 chkS 3 [1, 0, 3] = true := by kernel_rfl
theorem p_2_0_3 : forPerms 6 chkS 3 [2, 0, 3] = true := by kernel_rfl
theorem p_4_0_3 : forPerms 6 chkS 3 [4, 0, 3] = true := by kernel_rfl
theorem p_5_0_3 : forPerms 6 chkS 3 [5, 0, 3] = true := by kernel_rfl
theorem p_0_1_3 : forPerms 6 chkS 3 [0, 1, 3] = true := by kernel_rfl
theorem p_2_1_3 : forPerms 6 chkS 3 [2, 1, 3] = true := by kernel_rfl
theorem p_4_1_3 : forPerms 6 chkS 3 [4, 1, 3] = true := by kernel_rfl
theorem p_5_1_3 : forPerms 6 chkS 3 [5, 1, 3] = true := by kernel_rfl
theorem p_0_2_3 : forPerms 6 chkS 3 [0, 2, 3] = true := by kernel_rfl
theorem p_1_2_3 : forPerms 6 chkS 3 [1, 2, 3] = true := by kernel_rfl
theorem p_4_2_3 : forPerms 6 chkS 3 [4, 2, 3] = true := by kernel_rfl
theorem p_5_2_3 : forPerms 6 chkS 3 [5, 2, 3] = true := by kernel_rfl
theorem p_0_4_3 : forPerms 6 chkS 3 [0, 4, 3] = true := by kernel_rfl
theorem p_1_4_3 : forPerms 6 chkS 3 [1, 4, 3] = true := by kernel_rfl
theorem p_2_4_3 : forPerms 6 chkS 3 [2, 4, 3] = true := by kernel_rfl
theorem p_5_4_3 : forPerms 6 chkS 3 [5, 4, 3] = true := by kernel_rfl
theorem p_0_5_3 : forPerms 6 chkS 3 [0, 5, 3] = true := by kernel_rfl
theorem p_1_5_3 : forPerms 6 chkS 3 [1, 5, 3] = true := by kernel_rfl
theorem p_2_5_3 : forPerms 6 chkS 3 [2, 5, 3] = true := by kernel_rfl
theorem p_4_5_3 : forPerms 6 chkS 3 [4, 5, 3] = true := by kernel_rfl
theorem p_3 (l : List Nat) (h1 : l.length = 5) (h2 : (l ++ [3]).Nodup) (h3 : ∀ x ∈ l, x < 6) : chkS (l ++ [3]) = true := by
  obtain ⟨x0, x1, x2, c, b, rfl⟩ : ∃ x0 x1 x2 c b, l = [x0, x1, x2, c, b] := by
    rcases l with _ | ⟨x0, _ | ⟨x1, _ | ⟨x2, _ | ⟨c, _ | ⟨b, _ | ⟨z, l⟩⟩⟩⟩⟩⟩ <;> simp at h1
    exact ⟨x0, x1, x2, c, b, rfl⟩
  have hb : b < 6 := h3 b (by simp)
  have hc : c < 6 := h3 c (by simp)
  have key : forPerms 6 chkS 3 [c, b, 3] = true → chkS ([x0, x1, x2] ++ [c, b, 3]) = true := fun h => forPerms_spec h [x0, x1, x2] rfl h2 (fun x hx => h3 x (by simp at hx ⊢; rcases hx with h | h | h <;> simp [h]))
  have hd : c ≠ b ∧ c ≠ 3 ∧ b ≠ 3 := by
    simp at h2
    refine ⟨?_, ?_, ?_⟩ <;> intro e <;> subst e <;> simp at h2
  obtain ⟨d1, d2, d3⟩ := hd
  refine key ?_
  rcases (show b = 0 ∨ b = 1 ∨ b = 2 ∨ b = 3 ∨ b = 4 ∨ b = 5 by omega) with rfl | rfl | rfl | rfl | rfl | rfl <;>
    rcases (show c = 0 ∨ c = 1 ∨ c = 2 ∨ c = 3 ∨ c = 4 ∨ c = 5 by omega) with rfl | rfl | rfl | rfl | rfl | rfl <;>
    first | (exact absurd rfl d1) | (exact absurd rfl d2) | (exact absurd rfl d3) | skip
  · exact p_1_0_3
  · exact p_2_0_3
  · exact p_4_0_3
  · exact p_5_0_3
  · exact p_0_1_3
  · exact p_2_1_3
  · exact p_4_1_3
  · exact p_5_1_3
  · exact p_0_2_3
  · exact p_1_2_3
  · exact p_4_2_3
  · exact p_5_2_3
  · exact p_0_4_3
  · exact p_1_4_3
  · exact p_2_4_3
  · exact p_5_4_3
  · exact p_0_5_3
  · exact p_1_5_3
  · exact p_2_5_3
  · exact p_4_5_3
end Go.Proofs.YtockpchpaemfgaaGreatDoor.K
