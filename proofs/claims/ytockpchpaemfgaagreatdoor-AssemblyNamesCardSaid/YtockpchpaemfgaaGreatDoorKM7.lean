/- Facts about calls, level 7. -/
import Derived.Test.YtockpchpaemfgaaGreatDoorKM6
set_option linter.all false
set_option maxRecDepth 1000000
namespace Go.Proofs.YtockpchpaemfgaaGreatDoor.K
open Go.Ab
noncomputable def E7 : Env := mkEnv tabs memo6 (.leaf 274 idxHook) .nil
theorem okE7 : EnvOK Tryz.prog E7 := env_ok tys_ok fns_ok flats_ok (by kernel_rfl) _ _ _
theorem hkE7 : HooksOK Tryz.prog E7 := hooks_ok memo6_ok (fun E _ => idx_ok E) (fun _ _ => trivial)
noncomputable def n50_7 : List Ent := [([c181, c195], c197), ([c181, c208], c213), ([c181, c285], c290), ([c181, c333], c338)]
noncomputable def n50_7_0 : List Ent := [([c181, c195], c197)]
theorem k50_7_0 : chk E7 200 50 n50_7_0 = true := by kernel_rfl
noncomputable def n50_7_1 : List Ent := [([c181, c208], c213)]
theorem k50_7_1 : chk E7 200 50 n50_7_1 = true := by kernel_rfl
noncomputable def n50_7_2 : List Ent := [([c181, c285], c290)]
theorem k50_7_2 : chk E7 200 50 n50_7_2 = true := by kernel_rfl
noncomputable def n50_7_3 : List Ent := [([c181, c333], c338)]
theorem k50_7_3 : chk E7 200 50 n50_7_3 = true := by kernel_rfl
theorem kk50_7 : ∀ e ∈ n50_7, CallFact Tryz.prog tabs.glob.get 50 e := (all_append (a := n50_7_0) (b := (n50_7_1 ++ (n50_7_2 ++ (n50_7_3 ++ [])))) (chk_ok okE7 hkE7 k50_7_0) (all_append (a := n50_7_1) (b := (n50_7_2 ++ (n50_7_3 ++ []))) (chk_ok okE7 hkE7 k50_7_1) (all_append (a := n50_7_2) (b := (n50_7_3 ++ [])) (chk_ok okE7 hkE7 k50_7_2) (all_append (a := n50_7_3) (b := []) (chk_ok okE7 hkE7 k50_7_3) (fun _ h => by cases h)))))
noncomputable def t50_7 : List Ent := ([c181, c195], c197) :: ([c181, c208], c213) :: ([c181, c285], c290) :: ([c181, c333], c338) :: []
theorem ok50_7 : ∀ e ∈ t50_7, CallFact Tryz.prog tabs.glob.get 50 e := all_append (a := n50_7) (b := []) kk50_7 (fun _ h => by cases h)
noncomputable def n108_7 : List Ent := [([c307], (.d c235))]
noncomputable def n108_7_0 : List Ent := [([c307], (.d c235))]
theorem k108_7_0 : chk E7 200 108 n108_7_0 = true := by kernel_rfl
theorem kk108_7 : ∀ e ∈ n108_7, CallFact Tryz.prog tabs.glob.get 108 e := (all_append (a := n108_7_0) (b := []) (chk_ok okE7 hkE7 k108_7_0) (fun _ h => by cases h))
noncomputable def t108_7 : List Ent := ([c307], (.d c235)) :: t108_6
theorem ok108_7 : ∀ e ∈ t108_7, CallFact Tryz.prog tabs.glob.get 108 e := all_append (a := n108_7) (b := t108_6) kk108_7 ok108_6
noncomputable def mm7_1 : Tr (List Ent) := .node 20 (.leaf 17 t17_4) (.leaf 20 t20_6)
theorem mm7_1_ok : mm7_1.All (fun f l => ∀ e ∈ l, CallFact Tryz.prog tabs.glob.get f e) := ⟨ok17_4, ok20_6⟩
noncomputable def mm7_2 : Tr (List Ent) := .node 32 (.leaf 24 t24_3) (.leaf 32 t32_4)
theorem mm7_2_ok : mm7_2.All (fun f l => ∀ e ∈ l, CallFact Tryz.prog tabs.glob.get f e) := ⟨ok24_3, ok32_4⟩
noncomputable def mm7_3 : Tr (List Ent) := .node 24 mm7_1 mm7_2
theorem mm7_3_ok : mm7_3.All (fun f l => ∀ e ∈ l, CallFact Tryz.prog tabs.glob.get f e) := ⟨mm7_1_ok, mm7_2_ok⟩
noncomputable def mm7_4 : Tr (List Ent) := .node 36 (.leaf 34 t34_2) (.leaf 36 t36_3)
theorem mm7_4_ok : mm7_4.All (fun f l => ∀ e ∈ l, CallFact Tryz.prog tabs.glob.get f e) := ⟨ok34_2, ok36_3⟩
noncomputable def mm7_5 : Tr (List Ent) := .node 38 (.leaf 37 t37_2) (.leaf 38 t38_2)
theorem mm7_5_ok : mm7_5.All (fun f l => ∀ e ∈ l, CallFact Tryz.prog tabs.glob.get f e) := ⟨ok37_2, ok38_2⟩
noncomputable def mm7_6 : Tr (List Ent) := .node 37 mm7_4 mm7_5
theorem mm7_6_ok : mm7_6.All (fun f l => ∀ e ∈ l, CallFact Tryz.prog tabs.glob.get f e) := ⟨mm7_4_ok, mm7_5_ok⟩
noncomputable def mm7_7 : Tr (List Ent) := .node 34 mm7_3 mm7_6
theorem mm7_7_ok : mm7_7.All (fun f l => ∀ e ∈ l, CallFact Tryz.prog tabs.glob.get f e) := ⟨mm7_3_ok, mm7_6_ok⟩
noncomputable def mm7_8 : Tr (List Ent) := .node 42 (.leaf 39 t39_6) (.leaf 42 t42_5)
theorem mm7_8_ok : mm7_8.All (fun f l => ∀ e ∈ l, CallFact Tryz.prog tabs.glob.get f e) := ⟨ok39_6, ok42_5⟩
noncomputable def mm7_9 : Tr (List Ent) := .node 52 (.leaf 50 t50_7) (.leaf 52 t52_4)
theorem mm7_9_ok : mm7_9.All (fun f l => ∀ e ∈ l, CallFact Tryz.prog tabs.glob.get f e) := ⟨ok50_7, ok52_4⟩
noncomputable def mm7_10 : Tr (List Ent) := .node 50 mm7_8 mm7_9
theorem mm7_10_ok : mm7_10.All (fun f l => ∀ e ∈ l, CallFact Tryz.prog tabs.glob.get f e) := ⟨mm7_8_ok, mm7_9_ok⟩
noncomputable def mm7_11 : Tr (List Ent) := .node 63 (.leaf 57 t57_1) (.leaf 63 t63_2)
theorem mm7_11_ok : mm7_11.All (fun f l => ∀ e ∈ l, CallFact Tryz.prog tabs.glob.get f e) := ⟨ok57_1, ok63_2⟩
noncomputable def mm7_12 : Tr (List Ent) := .node 80 (.leaf 70 t70_6) (.leaf 80 t80_1)
theorem mm7_12_ok : mm7_12.All (fun f l => ∀ e ∈ l, CallFact Tryz.prog tabs.glob.get f e) := ⟨ok70_6, ok80_1⟩
noncomputable def mm7_13 : Tr (List Ent) := .node 70 mm7_11 mm7_12
theorem mm7_13_ok : mm7_13.All (fun f l => ∀ e ∈ l, CallFact Tryz.prog tabs.glob.get f e) := ⟨mm7_11_ok, mm7_12_ok⟩
noncomputable def mm7_14 : Tr (List Ent) := .node 57 mm7_10 mm7_13
theorem mm7_14_ok : mm7_14.All (fun f l => ∀ e ∈ l, CallFact Tryz.prog tabs.glob.get f e) := ⟨mm7_10_ok, mm7_13_ok⟩
noncomputable def mm7_15 : Tr (List Ent) := .node 39 mm7_7 mm7_14
theorem mm7_15_ok : mm7_15.All (fun f l => ∀ e ∈ l, CallFact Tryz.prog tabs.glob.get f e) := ⟨mm7_7_ok, mm7_14_ok⟩
noncomputable def mm7_16 : Tr (List Ent) := .node 100 (.leaf 97 t97_2) (.leaf 100 t100_2)
theorem mm7_16_ok : mm7_16.All (fun f l => ∀ e ∈ l, CallFact Tryz.prog tabs.glob.get f e) := ⟨ok97_2, ok100_2⟩
noncomputable def mm7_17 : Tr (List Ent) := .node 108 (.leaf 105 t105_5) (.leaf 108 t108_7)
theorem mm7_17_ok : mm7_17.All (fun f l => ∀ e ∈ l, CallFact Tryz.prog tabs.glob.get f e) := ⟨ok105_5, ok108_7⟩
noncomputable def mm7_18 : Tr (List Ent) := .node 105 mm7_16 mm7_17
theorem mm7_18_ok : mm7_18.All (fun f l => ∀ e ∈ l, CallFact Tryz.prog tabs.glob.get f e) := ⟨mm7_16_ok, mm7_17_ok⟩
noncomputable def mm7_19 : Tr (List Ent) := .node 112 (.leaf 109 t109_4) (.leaf 112 t112_4)
theorem mm7_19_ok : mm7_19.All (fun f l => ∀ e ∈ l, CallFact Tryz.prog tabs.glob.get f e) := ⟨ok109_4, ok112_4⟩
noncomputable def mm7_20 : Tr (List Ent) := .node 114 (.leaf 113 t113_6) (.leaf 114 t114_5)
theorem mm7_20_ok : mm7_20.All (fun f l => ∀ e ∈ l, CallFact Tryz.prog tabs.glob.get f e) := ⟨ok113_6, ok114_5⟩
noncomputable def mm7_21 : Tr (List Ent) := .node 113 mm7_19 mm7_20
theorem mm7_21_ok : mm7_21.All (fun f l => ∀ e ∈ l, CallFact Tryz.prog tabs.glob.get f e) := ⟨mm7_19_ok, mm7_20_ok⟩
noncomputable def mm7_22 : Tr (List Ent) := .node 109 mm7_18 mm7_21
theorem mm7_22_ok : mm7_22.All (fun f l => ∀ e ∈ l, CallFact Tryz.prog tabs.glob.get f e) := ⟨mm7_18_ok, mm7_21_ok⟩
noncomputable def mm7_23 : Tr (List Ent) := .node 127 (.leaf 126 t126_4) (.leaf 127 t127_3)
theorem mm7_23_ok : mm7_23.All (fun f l => ∀ e ∈ l, CallFact Tryz.prog tabs.glob.get f e) := ⟨ok126_4, ok127_3⟩
noncomputable def mm7_24 : Tr (List Ent) := .node 141 (.leaf 131 t131_3) (.leaf 141 t141_4)
theorem mm7_24_ok : mm7_24.All (fun f l => ∀ e ∈ l, CallFact Tryz.prog tabs.glob.get f e) := ⟨ok131_3, ok141_4⟩
noncomputable def mm7_25 : Tr (List Ent) := .node 131 mm7_23 mm7_24
theorem mm7_25_ok : mm7_25.All (fun f l => ∀ e ∈ l, CallFact Tryz.prog tabs.glob.get f e) := ⟨mm7_23_ok, mm7_24_ok⟩
noncomputable def mm7_26 : Tr (List Ent) := .node 165 (.leaf 159 t159_2) (.leaf 165 t165_1)
theorem mm7_26_ok : mm7_26.All (fun f l => ∀ e ∈ l, CallFact Tryz.prog tabs.glob.get f e) := ⟨ok159_2, ok165_1⟩
noncomputable def mm7_27 : Tr (List Ent) := .node 196 (.leaf 192 t192_1) (.leaf 196 t196_2)
theorem mm7_27_ok : mm7_27.All (fun f l => ∀ e ∈ l, CallFact Tryz.prog tabs.glob.get f e) := ⟨ok192_1, ok196_2⟩
noncomputable def mm7_28 : Tr (List Ent) := .node 192 mm7_26 mm7_27
theorem mm7_28_ok : mm7_28.All (fun f l => ∀ e ∈ l, CallFact Tryz.prog tabs.glob.get f e) := ⟨mm7_26_ok, mm7_27_ok⟩
noncomputable def mm7_29 : Tr (List Ent) := .node 159 mm7_25 mm7_28
theorem mm7_29_ok : mm7_29.All (fun f l => ∀ e ∈ l, CallFact Tryz.prog tabs.glob.get f e) := ⟨mm7_25_ok, mm7_28_ok⟩
noncomputable def mm7_30 : Tr (List Ent) := .node 126 mm7_22 mm7_29
theorem mm7_30_ok : mm7_30.All (fun f l => ∀ e ∈ l, CallFact Tryz.prog tabs.glob.get f e) := ⟨mm7_22_ok, mm7_29_ok⟩
noncomputable def mm7_31 : Tr (List Ent) := .node 97 mm7_15 mm7_30
theorem mm7_31_ok : mm7_31.All (fun f l => ∀ e ∈ l, CallFact Tryz.prog tabs.glob.get f e) := ⟨mm7_15_ok, mm7_30_ok⟩
noncomputable def memo7 : Tr (List Ent) := mm7_31
theorem memo7_ok : memo7.All (fun f l => ∀ e ∈ l, CallFact Tryz.prog tabs.glob.get f e) := mm7_31_ok
end Go.Proofs.YtockpchpaemfgaaGreatDoor.K
