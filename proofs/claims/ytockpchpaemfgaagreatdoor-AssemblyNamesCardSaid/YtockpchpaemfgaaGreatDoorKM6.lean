/- Facts about calls, level 6. -/
import Derived.Test.YtockpchpaemfgaaGreatDoorKM5
set_option linter.all false
set_option maxRecDepth 1000000
namespace Go.Proofs.YtockpchpaemfgaaGreatDoor.K
open Go.Ab
noncomputable def E6 : Env := mkEnv tabs memo5 (.leaf 274 idxHook) .nil
theorem okE6 : EnvOK Tryz.prog E6 := env_ok tys_ok fns_ok flats_ok (by kernel_rfl) _ _ _
theorem hkE6 : HooksOK Tryz.prog E6 := hooks_ok memo5_ok (fun E _ => idx_ok E) (fun _ _ => trivial)
noncomputable def n20_6 : List Ent := [([c196], c421), ([c337], c501)]
noncomputable def n20_6_0 : List Ent := [([c196], c421)]
theorem k20_6_0 : chk E6 200 20 n20_6_0 = true := by kernel_rfl
noncomputable def n20_6_1 : List Ent := [([c337], c501)]
theorem k20_6_1 : chk E6 200 20 n20_6_1 = true := by kernel_rfl
theorem kk20_6 : ∀ e ∈ n20_6, CallFact Tryz.prog tabs.glob.get 20 e := (all_append (a := n20_6_0) (b := (n20_6_1 ++ [])) (chk_ok okE6 hkE6 k20_6_0) (all_append (a := n20_6_1) (b := []) (chk_ok okE6 hkE6 k20_6_1) (fun _ h => by cases h)))
noncomputable def t20_6 : List Ent := ([c196], c421) :: ([c337], c501) :: []
theorem ok20_6 : ∀ e ∈ t20_6, CallFact Tryz.prog tabs.glob.get 20 e := all_append (a := n20_6) (b := []) kk20_6 (fun _ h => by cases h)
noncomputable def n39_6 : List Ent := [([c258, c257, (.d c223)], c280), ([c259, c257, (.d c223)], c282), ([c267, c257, (.d c223)], c303), ([c260, c258, (.d c223)], c282), ([c268, c258, (.d c223)], c303), ([c260, c259, (.d c223)], c280), ([c269, c259, (.d c223)], c303), ([c270, c260, (.d c223)], c303), ([c268, c267, (.d c223)], c280), ([c269, c267, (.d c223)], c282), ([c270, c268, (.d c223)], c282), ([c270, c269, (.d c223)], c280)]
noncomputable def n39_6_0 : List Ent := [([c258, c257, (.d c223)], c280), ([c259, c257, (.d c223)], c282), ([c267, c257, (.d c223)], c303), ([c260, c258, (.d c223)], c282), ([c268, c258, (.d c223)], c303), ([c260, c259, (.d c223)], c280), ([c269, c259, (.d c223)], c303), ([c270, c260, (.d c223)], c303), ([c268, c267, (.d c223)], c280), ([c269, c267, (.d c223)], c282), ([c270, c268, (.d c223)], c282), ([c270, c269, (.d c223)], c280)]
theorem k39_6_0 : chk E6 200 39 n39_6_0 = true := by kernel_rfl
theorem kk39_6 : ∀ e ∈ n39_6, CallFact Tryz.prog tabs.glob.get 39 e := (all_append (a := n39_6_0) (b := []) (chk_ok okE6 hkE6 k39_6_0) (fun _ h => by cases h))
noncomputable def t39_6 : List Ent := ([c258, c257, (.d c223)], c280) :: ([c259, c257, (.d c223)], c282) :: ([c267, c257, (.d c223)], c303) :: ([c260, c258, (.d c223)], c282) :: ([c268, c258, (.d c223)], c303) :: ([c260, c259, (.d c223)], c280) :: ([c269, c259, (.d c223)], c303) :: ([c270, c260, (.d c223)], c303) :: ([c268, c267, (.d c223)], c280) :: ([c269, c267, (.d c223)], c282) :: ([c270, c268, (.d c223)], c282) :: ([c270, c269, (.d c223)], c280) :: t39_5
theorem ok39_6 : ∀ e ∈ t39_6, CallFact Tryz.prog tabs.glob.get 39 e := all_append (a := n39_6) (b := t39_5) kk39_6 ok39_5
noncomputable def n70_6 : List Ent := [([c181], c186)]
noncomputable def n70_6_0 : List Ent := [([c181], c186)]
theorem k70_6_0 : chk E6 200 70 n70_6_0 = true := by kernel_rfl
theorem kk70_6 : ∀ e ∈ n70_6, CallFact Tryz.prog tabs.glob.get 70 e := (all_append (a := n70_6_0) (b := []) (chk_ok okE6 hkE6 k70_6_0) (fun _ h => by cases h))
noncomputable def t70_6 : List Ent := ([c181], c186) :: []
theorem ok70_6 : ∀ e ∈ t70_6, CallFact Tryz.prog tabs.glob.get 70 e := all_append (a := n70_6) (b := []) kk70_6 (fun _ h => by cases h)
noncomputable def n108_6 : List Ent := [([c240], (.d c235)), ([c241], (.d c235)), ([c344], (.d c235))]
noncomputable def n108_6_0 : List Ent := [([c240], (.d c235)), ([c241], (.d c235)), ([c344], (.d c235))]
theorem k108_6_0 : chk E6 200 108 n108_6_0 = true := by kernel_rfl
theorem kk108_6 : ∀ e ∈ n108_6, CallFact Tryz.prog tabs.glob.get 108 e := (all_append (a := n108_6_0) (b := []) (chk_ok okE6 hkE6 k108_6_0) (fun _ h => by cases h))
noncomputable def t108_6 : List Ent := ([c240], (.d c235)) :: ([c241], (.d c235)) :: ([c344], (.d c235)) :: []
theorem ok108_6 : ∀ e ∈ t108_6, CallFact Tryz.prog tabs.glob.get 108 e := all_append (a := n108_6) (b := []) kk108_6 (fun _ h => by cases h)
noncomputable def n113_6 : List Ent := [([c307, c158], c245), ([c307, c156], c245), ([c307, c133], c250), ([c307, c134], c250)]
noncomputable def n113_6_0 : List Ent := [([c307, c158], c245), ([c307, c156], c245), ([c307, c133], c250), ([c307, c134], c250)]
theorem k113_6_0 : chk E6 200 113 n113_6_0 = true := by kernel_rfl
theorem kk113_6 : ∀ e ∈ n113_6, CallFact Tryz.prog tabs.glob.get 113 e := (all_append (a := n113_6_0) (b := []) (chk_ok okE6 hkE6 k113_6_0) (fun _ h => by cases h))
noncomputable def t113_6 : List Ent := ([c307, c158], c245) :: ([c307, c156], c245) :: ([c307, c133], c250) :: ([c307, c134], c250) :: t113_5
theorem ok113_6 : ∀ e ∈ t113_6, CallFact Tryz.prog tabs.glob.get 113 e := all_append (a := n113_6) (b := t113_5) kk113_6 ok113_5
noncomputable def mm6_1 : Tr (List Ent) := .node 24 (.leaf 20 t20_6) (.leaf 24 t24_3)
theorem mm6_1_ok : mm6_1.All (fun f l => ∀ e ∈ l, CallFact Tryz.prog tabs.glob.get f e) := ⟨ok20_6, ok24_3⟩
noncomputable def mm6_2 : Tr (List Ent) := .node 20 (.leaf 17 t17_4) mm6_1
theorem mm6_2_ok : mm6_2.All (fun f l => ∀ e ∈ l, CallFact Tryz.prog tabs.glob.get f e) := ⟨ok17_4, mm6_1_ok⟩
noncomputable def mm6_3 : Tr (List Ent) := .node 34 (.leaf 32 t32_4) (.leaf 34 t34_2)
theorem mm6_3_ok : mm6_3.All (fun f l => ∀ e ∈ l, CallFact Tryz.prog tabs.glob.get f e) := ⟨ok32_4, ok34_2⟩
noncomputable def mm6_4 : Tr (List Ent) := .node 37 (.leaf 36 t36_3) (.leaf 37 t37_2)
theorem mm6_4_ok : mm6_4.All (fun f l => ∀ e ∈ l, CallFact Tryz.prog tabs.glob.get f e) := ⟨ok36_3, ok37_2⟩
noncomputable def mm6_5 : Tr (List Ent) := .node 36 mm6_3 mm6_4
theorem mm6_5_ok : mm6_5.All (fun f l => ∀ e ∈ l, CallFact Tryz.prog tabs.glob.get f e) := ⟨mm6_3_ok, mm6_4_ok⟩
noncomputable def mm6_6 : Tr (List Ent) := .node 32 mm6_2 mm6_5
theorem mm6_6_ok : mm6_6.All (fun f l => ∀ e ∈ l, CallFact Tryz.prog tabs.glob.get f e) := ⟨mm6_2_ok, mm6_5_ok⟩
noncomputable def mm6_7 : Tr (List Ent) := .node 39 (.leaf 38 t38_2) (.leaf 39 t39_6)
theorem mm6_7_ok : mm6_7.All (fun f l => ∀ e ∈ l, CallFact Tryz.prog tabs.glob.get f e) := ⟨ok38_2, ok39_6⟩
noncomputable def mm6_8 : Tr (List Ent) := .node 52 (.leaf 42 t42_5) (.leaf 52 t52_4)
theorem mm6_8_ok : mm6_8.All (fun f l => ∀ e ∈ l, CallFact Tryz.prog tabs.glob.get f e) := ⟨ok42_5, ok52_4⟩
noncomputable def mm6_9 : Tr (List Ent) := .node 42 mm6_7 mm6_8
theorem mm6_9_ok : mm6_9.All (fun f l => ∀ e ∈ l, CallFact Tryz.prog tabs.glob.get f e) := ⟨mm6_7_ok, mm6_8_ok⟩
noncomputable def mm6_10 : Tr (List Ent) := .node 63 (.leaf 57 t57_1) (.leaf 63 t63_2)
theorem mm6_10_ok : mm6_10.All (fun f l => ∀ e ∈ l, CallFact Tryz.prog tabs.glob.get f e) := ⟨ok57_1, ok63_2⟩
noncomputable def mm6_11 : Tr (List Ent) := .node 80 (.leaf 70 t70_6) (.leaf 80 t80_1)
theorem mm6_11_ok : mm6_11.All (fun f l => ∀ e ∈ l, CallFact Tryz.prog tabs.glob.get f e) := ⟨ok70_6, ok80_1⟩
noncomputable def mm6_12 : Tr (List Ent) := .node 70 mm6_10 mm6_11
theorem mm6_12_ok : mm6_12.All (fun f l => ∀ e ∈ l, CallFact Tryz.prog tabs.glob.get f e) := ⟨mm6_10_ok, mm6_11_ok⟩
noncomputable def mm6_13 : Tr (List Ent) := .node 57 mm6_9 mm6_12
theorem mm6_13_ok : mm6_13.All (fun f l => ∀ e ∈ l, CallFact Tryz.prog tabs.glob.get f e) := ⟨mm6_9_ok, mm6_12_ok⟩
noncomputable def mm6_14 : Tr (List Ent) := .node 38 mm6_6 mm6_13
theorem mm6_14_ok : mm6_14.All (fun f l => ∀ e ∈ l, CallFact Tryz.prog tabs.glob.get f e) := ⟨mm6_6_ok, mm6_13_ok⟩
noncomputable def mm6_15 : Tr (List Ent) := .node 100 (.leaf 97 t97_2) (.leaf 100 t100_2)
theorem mm6_15_ok : mm6_15.All (fun f l => ∀ e ∈ l, CallFact Tryz.prog tabs.glob.get f e) := ⟨ok97_2, ok100_2⟩
noncomputable def mm6_16 : Tr (List Ent) := .node 108 (.leaf 105 t105_5) (.leaf 108 t108_6)
theorem mm6_16_ok : mm6_16.All (fun f l => ∀ e ∈ l, CallFact Tryz.prog tabs.glob.get f e) := ⟨ok105_5, ok108_6⟩
noncomputable def mm6_17 : Tr (List Ent) := .node 105 mm6_15 mm6_16
theorem mm6_17_ok : mm6_17.All (fun f l => ∀ e ∈ l, CallFact Tryz.prog tabs.glob.get f e) := ⟨mm6_15_ok, mm6_16_ok⟩
noncomputable def mm6_18 : Tr (List Ent) := .node 112 (.leaf 109 t109_4) (.leaf 112 t112_4)
theorem mm6_18_ok : mm6_18.All (fun f l => ∀ e ∈ l, CallFact Tryz.prog tabs.glob.get f e) := ⟨ok109_4, ok112_4⟩
noncomputable def mm6_19 : Tr (List Ent) := .node 114 (.leaf 113 t113_6) (.leaf 114 t114_5)
theorem mm6_19_ok : mm6_19.All (fun f l => ∀ e ∈ l, CallFact Tryz.prog tabs.glob.get f e) := ⟨ok113_6, ok114_5⟩
noncomputable def mm6_20 : Tr (List Ent) := .node 113 mm6_18 mm6_19
theorem mm6_20_ok : mm6_20.All (fun f l => ∀ e ∈ l, CallFact Tryz.prog tabs.glob.get f e) := ⟨mm6_18_ok, mm6_19_ok⟩
noncomputable def mm6_21 : Tr (List Ent) := .node 109 mm6_17 mm6_20
theorem mm6_21_ok : mm6_21.All (fun f l => ∀ e ∈ l, CallFact Tryz.prog tabs.glob.get f e) := ⟨mm6_17_ok, mm6_20_ok⟩
noncomputable def mm6_22 : Tr (List Ent) := .node 127 (.leaf 126 t126_4) (.leaf 127 t127_3)
theorem mm6_22_ok : mm6_22.All (fun f l => ∀ e ∈ l, CallFact Tryz.prog tabs.glob.get f e) := ⟨ok126_4, ok127_3⟩
noncomputable def mm6_23 : Tr (List Ent) := .node 141 (.leaf 131 t131_3) (.leaf 141 t141_4)
theorem mm6_23_ok : mm6_23.All (fun f l => ∀ e ∈ l, CallFact Tryz.prog tabs.glob.get f e) := ⟨ok131_3, ok141_4⟩
noncomputable def mm6_24 : Tr (List Ent) := .node 131 mm6_22 mm6_23
theorem mm6_24_ok : mm6_24.All (fun f l => ∀ e ∈ l, CallFact Tryz.prog tabs.glob.get f e) := ⟨mm6_22_ok, mm6_23_ok⟩
noncomputable def mm6_25 : Tr (List Ent) := .node 165 (.leaf 159 t159_2) (.leaf 165 t165_1)
theorem mm6_25_ok : mm6_25.All (fun f l => ∀ e ∈ l, CallFact Tryz.prog tabs.glob.get f e) := ⟨ok159_2, ok165_1⟩
noncomputable def mm6_26 : Tr (List Ent) := .node 196 (.leaf 192 t192_1) (.leaf 196 t196_2)
theorem mm6_26_ok : mm6_26.All (fun f l => ∀ e ∈ l, CallFact Tryz.prog tabs.glob.get f e) := ⟨ok192_1, ok196_2⟩
noncomputable def mm6_27 : Tr (List Ent) := .node 192 mm6_25 mm6_26
theorem mm6_27_ok : mm6_27.All (fun f l => ∀ e ∈ l, CallFact Tryz.prog tabs.glob.get f e) := ⟨mm6_25_ok, mm6_26_ok⟩
noncomputable def mm6_28 : Tr (List Ent) := .node 159 mm6_24 mm6_27
theorem mm6_28_ok : mm6_28.All (fun f l => ∀ e ∈ l, CallFact Tryz.prog tabs.glob.get f e) := ⟨mm6_24_ok, mm6_27_ok⟩
noncomputable def mm6_29 : Tr (List Ent) := .node 126 mm6_21 mm6_28
theorem mm6_29_ok : mm6_29.All (fun f l => ∀ e ∈ l, CallFact Tryz.prog tabs.glob.get f e) := ⟨mm6_21_ok, mm6_28_ok⟩
noncomputable def mm6_30 : Tr (List Ent) := .node 97 mm6_14 mm6_29
theorem mm6_30_ok : mm6_30.All (fun f l => ∀ e ∈ l, CallFact Tryz.prog tabs.glob.get f e) := ⟨mm6_14_ok, mm6_29_ok⟩
noncomputable def memo6 : Tr (List Ent) := mm6_30
theorem memo6_ok : memo6.All (fun f l => ∀ e ∈ l, CallFact Tryz.prog tabs.glob.get f e) := mm6_30_ok
end Go.Proofs.YtockpchpaemfgaaGreatDoor.K
