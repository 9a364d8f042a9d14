/- Facts about calls, level 8. -/
import Derived.Test.YtockpchpaemfgaaGreatDoorKSort
import Derived.Test.YtockpchpaemfgaaGreatDoorAbMemo
set_option linter.all false
set_option maxRecDepth 1000000
namespace Go.Proofs.YtockpchpaemfgaaGreatDoor.K
open Go.Ab
noncomputable def E8 : Env := mkEnv tabs memo7 hooks2 (.leaf 110 sortHook)
theorem okE8 : EnvOK Tryz.prog E8 := env_ok tys_ok fns_ok flats_ok (by kernel_rfl) _ _ _
theorem hkE8 : HooksOK Tryz.prog E8 := hooks_ok memo7_ok (fun E h => hooks2_ok E h) (fun E h => sort_ok E h)
noncomputable def n12_8 : List Ent := [([c218], c220), ([c292], c294), ([c340], c342)]
noncomputable def n12_8_0 : List Ent := [([c218], c220), ([c292], c294), ([c340], c342)]
theorem k12_8_0 : chk E8 200 12 n12_8_0 = true := by kernel_rfl
theorem kk12_8 : ∀ e ∈ n12_8, CallFact Tryz.prog tabs.glob.get 12 e := (all_append (a := n12_8_0) (b := []) (chk_ok okE8 hkE8 k12_8_0) (fun _ h => by cases h))
noncomputable def t12_8 : List Ent := ([c218], c220) :: ([c292], c294) :: ([c340], c342) :: []
theorem ok12_8 : ∀ e ∈ t12_8, CallFact Tryz.prog tabs.glob.get 12 e := all_append (a := n12_8) (b := []) kk12_8 (fun _ h => by cases h)
noncomputable def n77_8 : List Ent := [([c241, c240], (.d c244)), ([c241, c307], (.d c244)), ([c241, c344], (.d c244))]
theorem k77_8_0_0 : chkMany E8 6 200 77 ([c241, c240], (.d c244)) [0] = true := by kernel_rfl
theorem k77_8_0_1 : chkMany E8 6 200 77 ([c241, c240], (.d c244)) [1] = true := by kernel_rfl
theorem k77_8_0_2 : chkMany E8 6 200 77 ([c241, c240], (.d c244)) [2] = true := by kernel_rfl
theorem k77_8_0_3 : chkMany E8 6 200 77 ([c241, c240], (.d c244)) [3] = true := by kernel_rfl
theorem k77_8_0_4 : chkMany E8 6 200 77 ([c241, c240], (.d c244)) [4] = true := by kernel_rfl
theorem k77_8_0_5 : chkMany E8 6 200 77 ([c241, c240], (.d c244)) [5] = true := by kernel_rfl
theorem k77_8_0 : ∀ j, j < 6 → chkMany E8 6 200 77 ([c241, c240], (.d c244)) [j] = true := by
  intro j hj
  rcases (show j = 0 ∨ j = 1 ∨ j = 2 ∨ j = 3 ∨ j = 4 ∨ j = 5 by omega) with rfl | rfl | rfl | rfl | rfl | rfl
  · exact k77_8_0_0
  · exact k77_8_0_1
  · exact k77_8_0_2
  · exact k77_8_0_3
  · exact k77_8_0_4
  · exact k77_8_0_5
theorem k77_8_1_0 : chkMany E8 6 200 77 ([c241, c307], (.d c244)) [0] = true := by kernel_rfl
theorem k77_8_1_1 : chkMany E8 6 200 77 ([c241, c307], (.d c244)) [1] = true := by kernel_rfl
theorem k77_8_1_2 : chkMany E8 6 200 77 ([c241, c307], (.d c244)) [2] = true := by kernel_rfl
theorem k77_8_1_3 : chkMany E8 6 200 77 ([c241, c307], (.d c244)) [3] = true := by kernel_rfl
theorem k77_8_1_4 : chkMany E8 6 200 77 ([c241, c307], (.d c244)) [4] = true := by kernel_rfl
theorem k77_8_1_5 : chkMany E8 6 200 77 ([c241, c307], (.d c244)) [5] = true := by kernel_rfl
theorem k77_8_1 : ∀ j, j < 6 → chkMany E8 6 200 77 ([c241, c307], (.d c244)) [j] = true := by
  intro j hj
  rcases (show j = 0 ∨ j = 1 ∨ j = 2 ∨ j = 3 ∨ j = 4 ∨ j = 5 by omega) with rfl | rfl | rfl | rfl | rfl | rfl
  · exact k77_8_1_0
  · exact k77_8_1_1
  · exact k77_8_1_2
  · exact k77_8_1_3
  · exact k77_8_1_4
  · exact k77_8_1_5
theorem k77_8_2_0 : chkMany E8 6 200 77 ([c241, c344], (.d c244)) [0] = true := by kernel_rfl
theorem k77_8_2_1 : chkMany E8 6 200 77 ([c241, c344], (.d c244)) [1] = true := by kernel_rfl
theorem k77_8_2_2 : chkMany E8 6 200 77 ([c241, c344], (.d c244)) [2] = true := by kernel_rfl
theorem k77_8_2_3 : chkMany E8 6 200 77 ([c241, c344], (.d c244)) [3] = true := by kernel_rfl
theorem k77_8_2_4 : chkMany E8 6 200 77 ([c241, c344], (.d c244)) [4] = true := by kernel_rfl
theorem k77_8_2_5 : chkMany E8 6 200 77 ([c241, c344], (.d c244)) [5] = true := by kernel_rfl
theorem k77_8_2 : ∀ j, j < 6 → chkMany E8 6 200 77 ([c241, c344], (.d c244)) [j] = true := by
  intro j hj
  rcases (show j = 0 ∨ j = 1 ∨ j = 2 ∨ j = 3 ∨ j = 4 ∨ j = 5 by omega) with rfl | rfl | rfl | rfl | rfl | rfl
  · exact k77_8_2_0
  · exact k77_8_2_1
  · exact k77_8_2_2
  · exact k77_8_2_3
  · exact k77_8_2_4
  · exact k77_8_2_5
theorem kk77_8 : ∀ e ∈ n77_8, CallFact Tryz.prog tabs.glob.get 77 e := by
  intro e he
  simp only [n77_8, List.mem_cons, List.not_mem_nil, or_false] at he
  rcases he with rfl | rfl | rfl
  · exact chkMany_ok okE8 hkE8 (by omega) k77_8_0
  · exact chkMany_ok okE8 hkE8 (by omega) k77_8_1
  · exact chkMany_ok okE8 hkE8 (by omega) k77_8_2
noncomputable def t77_8 : List Ent := ([c241, c240], (.d c244)) :: ([c241, c307], (.d c244)) :: ([c241, c344], (.d c244)) :: []
theorem ok77_8 : ∀ e ∈ t77_8, CallFact Tryz.prog tabs.glob.get 77 e := all_append (a := n77_8) (b := []) kk77_8 (fun _ h => by cases h)
noncomputable def mm8_1 : Tr (List Ent) := .node 17 (.leaf 12 t12_8) (.leaf 17 t17_4)
theorem mm8_1_ok : mm8_1.All (fun f l => ∀ e ∈ l, CallFact Tryz.prog tabs.glob.get f e) := ⟨ok12_8, ok17_4⟩
noncomputable def mm8_2 : Tr (List Ent) := .node 24 (.leaf 20 t20_6) (.leaf 24 t24_3)
theorem mm8_2_ok : mm8_2.All (fun f l => ∀ e ∈ l, CallFact Tryz.prog tabs.glob.get f e) := ⟨ok20_6, ok24_3⟩
noncomputable def mm8_3 : Tr (List Ent) := .node 20 mm8_1 mm8_2
theorem mm8_3_ok : mm8_3.All (fun f l => ∀ e ∈ l, CallFact Tryz.prog tabs.glob.get f e) := ⟨mm8_1_ok, mm8_2_ok⟩
noncomputable def mm8_4 : Tr (List Ent) := .node 34 (.leaf 32 t32_4) (.leaf 34 t34_2)
theorem mm8_4_ok : mm8_4.All (fun f l => ∀ e ∈ l, CallFact Tryz.prog tabs.glob.get f e) := ⟨ok32_4, ok34_2⟩
noncomputable def mm8_5 : Tr (List Ent) := .node 37 (.leaf 36 t36_3) (.leaf 37 t37_2)
theorem mm8_5_ok : mm8_5.All (fun f l => ∀ e ∈ l, CallFact Tryz.prog tabs.glob.get f e) := ⟨ok36_3, ok37_2⟩
noncomputable def mm8_6 : Tr (List Ent) := .node 36 mm8_4 mm8_5
theorem mm8_6_ok : mm8_6.All (fun f l => ∀ e ∈ l, CallFact Tryz.prog tabs.glob.get f e) := ⟨mm8_4_ok, mm8_5_ok⟩
noncomputable def mm8_7 : Tr (List Ent) := .node 32 mm8_3 mm8_6
theorem mm8_7_ok : mm8_7.All (fun f l => ∀ e ∈ l, CallFact Tryz.prog tabs.glob.get f e) := ⟨mm8_3_ok, mm8_6_ok⟩
noncomputable def mm8_8 : Tr (List Ent) := .node 39 (.leaf 38 t38_2) (.leaf 39 t39_6)
theorem mm8_8_ok : mm8_8.All (fun f l => ∀ e ∈ l, CallFact Tryz.prog tabs.glob.get f e) := ⟨ok38_2, ok39_6⟩
noncomputable def mm8_9 : Tr (List Ent) := .node 50 (.leaf 42 t42_5) (.leaf 50 t50_7)
theorem mm8_9_ok : mm8_9.All (fun f l => ∀ e ∈ l, CallFact Tryz.prog tabs.glob.get f e) := ⟨ok42_5, ok50_7⟩
noncomputable def mm8_10 : Tr (List Ent) := .node 42 mm8_8 mm8_9
theorem mm8_10_ok : mm8_10.All (fun f l => ∀ e ∈ l, CallFact Tryz.prog tabs.glob.get f e) := ⟨mm8_8_ok, mm8_9_ok⟩
noncomputable def mm8_11 : Tr (List Ent) := .node 57 (.leaf 52 t52_4) (.leaf 57 t57_1)
theorem mm8_11_ok : mm8_11.All (fun f l => ∀ e ∈ l, CallFact Tryz.prog tabs.glob.get f e) := ⟨ok52_4, ok57_1⟩
noncomputable def mm8_12 : Tr (List Ent) := .node 77 (.leaf 70 t70_6) (.leaf 77 t77_8)
theorem mm8_12_ok : mm8_12.All (fun f l => ∀ e ∈ l, CallFact Tryz.prog tabs.glob.get f e) := ⟨ok70_6, ok77_8⟩
noncomputable def mm8_13 : Tr (List Ent) := .node 70 (.leaf 63 t63_2) mm8_12
theorem mm8_13_ok : mm8_13.All (fun f l => ∀ e ∈ l, CallFact Tryz.prog tabs.glob.get f e) := ⟨ok63_2, mm8_12_ok⟩
noncomputable def mm8_14 : Tr (List Ent) := .node 63 mm8_11 mm8_13
theorem mm8_14_ok : mm8_14.All (fun f l => ∀ e ∈ l, CallFact Tryz.prog tabs.glob.get f e) := ⟨mm8_11_ok, mm8_13_ok⟩
noncomputable def mm8_15 : Tr (List Ent) := .node 52 mm8_10 mm8_14
theorem mm8_15_ok : mm8_15.All (fun f l => ∀ e ∈ l, CallFact Tryz.prog tabs.glob.get f e) := ⟨mm8_10_ok, mm8_14_ok⟩
noncomputable def mm8_16 : Tr (List Ent) := .node 38 mm8_7 mm8_15
theorem mm8_16_ok : mm8_16.All (fun f l => ∀ e ∈ l, CallFact Tryz.prog tabs.glob.get f e) := ⟨mm8_7_ok, mm8_15_ok⟩
noncomputable def mm8_17 : Tr (List Ent) := .node 97 (.leaf 80 t80_1) (.leaf 97 t97_2)
theorem mm8_17_ok : mm8_17.All (fun f l => ∀ e ∈ l, CallFact Tryz.prog tabs.glob.get f e) := ⟨ok80_1, ok97_2⟩
noncomputable def mm8_18 : Tr (List Ent) := .node 105 (.leaf 100 t100_2) (.leaf 105 t105_5)
theorem mm8_18_ok : mm8_18.All (fun f l => ∀ e ∈ l, CallFact Tryz.prog tabs.glob.get f e) := ⟨ok100_2, ok105_5⟩
noncomputable def mm8_19 : Tr (List Ent) := .node 100 mm8_17 mm8_18
theorem mm8_19_ok : mm8_19.All (fun f l => ∀ e ∈ l, CallFact Tryz.prog tabs.glob.get f e) := ⟨mm8_17_ok, mm8_18_ok⟩
noncomputable def mm8_20 : Tr (List Ent) := .node 109 (.leaf 108 t108_7) (.leaf 109 t109_4)
theorem mm8_20_ok : mm8_20.All (fun f l => ∀ e ∈ l, CallFact Tryz.prog tabs.glob.get f e) := ⟨ok108_7, ok109_4⟩
noncomputable def mm8_21 : Tr (List Ent) := .node 113 (.leaf 112 t112_4) (.leaf 113 t113_6)
theorem mm8_21_ok : mm8_21.All (fun f l => ∀ e ∈ l, CallFact Tryz.prog tabs.glob.get f e) := ⟨ok112_4, ok113_6⟩
noncomputable def mm8_22 : Tr (List Ent) := .node 112 mm8_20 mm8_21
theorem mm8_22_ok : mm8_22.All (fun f l => ∀ e ∈ l, CallFact Tryz.prog tabs.glob.get f e) := ⟨mm8_20_ok, mm8_21_ok⟩
noncomputable def mm8_23 : Tr (List Ent) := .node 108 mm8_19 mm8_22
theorem mm8_23_ok : mm8_23.All (fun f l => ∀ e ∈ l, CallFact Tryz.prog tabs.glob.get f e) := ⟨mm8_19_ok, mm8_22_ok⟩
noncomputable def mm8_24 : Tr (List Ent) := .node 126 (.leaf 114 t114_5) (.leaf 126 t126_4)
theorem mm8_24_ok : mm8_24.All (fun f l => ∀ e ∈ l, CallFact Tryz.prog tabs.glob.get f e) := ⟨ok114_5, ok126_4⟩
noncomputable def mm8_25 : Tr (List Ent) := .node 131 (.leaf 127 t127_3) (.leaf 131 t131_3)
theorem mm8_25_ok : mm8_25.All (fun f l => ∀ e ∈ l, CallFact Tryz.prog tabs.glob.get f e) := ⟨ok127_3, ok131_3⟩
noncomputable def mm8_26 : Tr (List Ent) := .node 127 mm8_24 mm8_25
theorem mm8_26_ok : mm8_26.All (fun f l => ∀ e ∈ l, CallFact Tryz.prog tabs.glob.get f e) := ⟨mm8_24_ok, mm8_25_ok⟩
noncomputable def mm8_27 : Tr (List Ent) := .node 159 (.leaf 141 t141_4) (.leaf 159 t159_2)
theorem mm8_27_ok : mm8_27.All (fun f l => ∀ e ∈ l, CallFact Tryz.prog tabs.glob.get f e) := ⟨ok141_4, ok159_2⟩
noncomputable def mm8_28 : Tr (List Ent) := .node 196 (.leaf 192 t192_1) (.leaf 196 t196_2)
theorem mm8_28_ok : mm8_28.All (fun f l => ∀ e ∈ l, CallFact Tryz.prog tabs.glob.get f e) := ⟨ok192_1, ok196_2⟩
noncomputable def mm8_29 : Tr (List Ent) := .node 192 (.leaf 165 t165_1) mm8_28
theorem mm8_29_ok : mm8_29.All (fun f l => ∀ e ∈ l, CallFact Tryz.prog tabs.glob.get f e) := ⟨ok165_1, mm8_28_ok⟩
noncomputable def mm8_30 : Tr (List Ent) := .node 165 mm8_27 mm8_29
theorem mm8_30_ok : mm8_30.All (fun f l => ∀ e ∈ l, CallFact Tryz.prog tabs.glob.get f e) := ⟨mm8_27_ok, mm8_29_ok⟩
noncomputable def mm8_31 : Tr (List Ent) := .node 141 mm8_26 mm8_30
theorem mm8_31_ok : mm8_31.All (fun f l => ∀ e ∈ l, CallFact Tryz.prog tabs.glob.get f e) := ⟨mm8_26_ok, mm8_30_ok⟩
noncomputable def mm8_32 : Tr (List Ent) := .node 114 mm8_23 mm8_31
theorem mm8_32_ok : mm8_32.All (fun f l => ∀ e ∈ l, CallFact Tryz.prog tabs.glob.get f e) := ⟨mm8_23_ok, mm8_31_ok⟩
noncomputable def mm8_33 : Tr (List Ent) := .node 80 mm8_16 mm8_32
theorem mm8_33_ok : mm8_33.All (fun f l => ∀ e ∈ l, CallFact Tryz.prog tabs.glob.get f e) := ⟨mm8_16_ok, mm8_32_ok⟩
noncomputable def memo8 : Tr (List Ent) := mm8_33
theorem memo8_ok : memo8.All (fun f l => ∀ e ∈ l, CallFact Tryz.prog tabs.glob.get f e) := mm8_33_ok
end Go.Proofs.YtockpchpaemfgaaGreatDoor.K
