/- Facts about calls, level 5. -/
import Derived.Test.YtockpchpaemfgaaGreatDoorKM4
set_option linter.all false
set_option maxRecDepth 1000000
namespace Go.Proofs.YtockpchpaemfgaaGreatDoor.K
open Go.Ab
noncomputable def E5 : Env := mkEnv tabs memo4 (.leaf 274 idxHook) .nil
theorem okE5 : EnvOK Tryz.prog E5 := env_ok tys_ok fns_ok flats_ok (by kernel_rfl) _ _ _
theorem hkE5 : HooksOK Tryz.prog E5 := hooks_ok memo4_ok (fun E _ => idx_ok E) (fun _ _ => trivial)
noncomputable def n39_5 : List Ent := [([c156, c257, (.d c154)], c278), ([c158, c257, (.d c154)], c278), ([c133, c258, (.d c154)], c280), ([c134, c259, (.d c154)], c282), ([c158, c258, (.d c154)], c278), ([c158, c259, (.d c154)], c311), ([c158, c260, (.d c154)], c311), ([c158, c267, (.d c154)], c278), ([c158, c268, (.d c154)], c278), ([c158, c269, (.d c154)], c311), ([c158, c270, (.d c154)], c311), ([c156, c258, (.d c154)], c313), ([c156, c259, (.d c154)], c278), ([c156, c260, (.d c154)], c313), ([c156, c267, (.d c154)], c278), ([c156, c268, (.d c154)], c313), ([c156, c269, (.d c154)], c278), ([c156, c270, (.d c154)], c313), ([c133, c257, (.d c154)], c278), ([c133, c259, (.d c154)], c278), ([c133, c260, (.d c154)], c280), ([c133, c267, (.d c154)], c278), ([c133, c268, (.d c154)], c280), ([c133, c269, (.d c154)], c278), ([c133, c270, (.d c154)], c280), ([c134, c257, (.d c154)], c278), ([c134, c258, (.d c154)], c278), ([c134, c260, (.d c154)], c282), ([c134, c267, (.d c154)], c278), ([c134, c268, (.d c154)], c278), ([c134, c269, (.d c154)], c282), ([c134, c270, (.d c154)], c282), ([c409, c409, (.d c420)], c421), ([c496, c496, (.d c420)], c501), ([c421, c501, (.d c191)], c510), ([c510, c510, (.d c513)], c514)]
noncomputable def n39_5_0 : List Ent := [([c156, c257, (.d c154)], c278), ([c158, c257, (.d c154)], c278), ([c133, c258, (.d c154)], c280), ([c134, c259, (.d c154)], c282), ([c158, c258, (.d c154)], c278), ([c158, c259, (.d c154)], c311), ([c158, c260, (.d c154)], c311), ([c158, c267, (.d c154)], c278), ([c158, c268, (.d c154)], c278), ([c158, c269, (.d c154)], c311), ([c158, c270, (.d c154)], c311), ([c156, c258, (.d c154)], c313), ([c156, c259, (.d c154)], c278), ([c156, c260, (.d c154)], c313), ([c156, c267, (.d c154)], c278), ([c156, c268, (.d c154)], c313), ([c156, c269, (.d c154)], c278), ([c156, c270, (.d c154)], c313), ([c133, c257, (.d c154)], c278), ([c133, c259, (.d c154)], c278), ([c133, c260, (.d c154)], c280), ([c133, c267, (.d c154)], c278), ([c133, c268, (.d c154)], c280), ([c133, c269, (.d c154)], c278), ([c133, c270, (.d c154)], c280), ([c134, c257, (.d c154)], c278), ([c134, c258, (.d c154)], c278), ([c134, c260, (.d c154)], c282), ([c134, c267, (.d c154)], c278), ([c134, c268, (.d c154)], c278), ([c134, c269, (.d c154)], c282), ([c134, c270, (.d c154)], c282), ([c409, c409, (.d c420)], c421), ([c496, c496, (.d c420)], c501), ([c421, c501, (.d c191)], c510), ([c510, c510, (.d c513)], c514)]
theorem k39_5_0 : chk E5 200 39 n39_5_0 = true := by kernel_rfl
theorem kk39_5 : ∀ e ∈ n39_5, CallFact Tryz.prog tabs.glob.get 39 e := (all_append (a := n39_5_0) (b := []) (chk_ok okE5 hkE5 k39_5_0) (fun _ h => by cases h))
noncomputable def t39_5 : List Ent := ([c156, c257, (.d c154)], c278) :: ([c158, c257, (.d c154)], c278) :: ([c133, c258, (.d c154)], c280) :: ([c134, c259, (.d c154)], c282) :: ([c158, c258, (.d c154)], c278) :: ([c158, c259, (.d c154)], c311) :: ([c158, c260, (.d c154)], c311) :: ([c158, c267, (.d c154)], c278) :: ([c158, c268, (.d c154)], c278) :: ([c158, c269, (.d c154)], c311) :: ([c158, c270, (.d c154)], c311) :: ([c156, c258, (.d c154)], c313) :: ([c156, c259, (.d c154)], c278) :: ([c156, c260, (.d c154)], c313) :: ([c156, c267, (.d c154)], c278) :: ([c156, c268, (.d c154)], c313) :: ([c156, c269, (.d c154)], c278) :: ([c156, c270, (.d c154)], c313) :: ([c133, c257, (.d c154)], c278) :: ([c133, c259, (.d c154)], c278) :: ([c133, c260, (.d c154)], c280) :: ([c133, c267, (.d c154)], c278) :: ([c133, c268, (.d c154)], c280) :: ([c133, c269, (.d c154)], c278) :: ([c133, c270, (.d c154)], c280) :: ([c134, c257, (.d c154)], c278) :: ([c134, c258, (.d c154)], c278) :: ([c134, c260, (.d c154)], c282) :: ([c134, c267, (.d c154)], c278) :: ([c134, c268, (.d c154)], c278) :: ([c134, c269, (.d c154)], c282) :: ([c134, c270, (.d c154)], c282) :: ([c409, c409, (.d c420)], c421) :: ([c496, c496, (.d c420)], c501) :: ([c421, c501, (.d c191)], c510) :: ([c510, c510, (.d c513)], c514) :: t39_4
theorem ok39_5 : ∀ e ∈ t39_5, CallFact Tryz.prog tabs.glob.get 39 e := all_append (a := n39_5) (b := t39_4) kk39_5 ok39_4
noncomputable def n42_5 : List Ent := [([c241], c148), ([c344], c148)]
noncomputable def n42_5_0 : List Ent := [([c241], c148)]
theorem k42_5_0 : chk E5 200 42 n42_5_0 = true := by kernel_rfl
noncomputable def n42_5_1 : List Ent := [([c344], c148)]
theorem k42_5_1 : chk E5 200 42 n42_5_1 = true := by kernel_rfl
theorem kk42_5 : ∀ e ∈ n42_5, CallFact Tryz.prog tabs.glob.get 42 e := (all_append (a := n42_5_0) (b := (n42_5_1 ++ [])) (chk_ok okE5 hkE5 k42_5_0) (all_append (a := n42_5_1) (b := []) (chk_ok okE5 hkE5 k42_5_1) (fun _ h => by cases h)))
noncomputable def t42_5 : List Ent := ([c241], c148) :: ([c344], c148) :: []
theorem ok42_5 : ∀ e ∈ t42_5, CallFact Tryz.prog tabs.glob.get 42 e := all_append (a := n42_5) (b := []) kk42_5 (fun _ h => by cases h)
noncomputable def n105_5 : List Ent := [([c141], c153), ([c156], c157), ([c158], c159), ([c133], c161), ([c134], c163), ([c136], c165), ([c280], c161), ([c282], c163), ([c303], c165)]
noncomputable def n105_5_0 : List Ent := [([c141], c153), ([c156], c157), ([c158], c159), ([c133], c161), ([c134], c163), ([c136], c165), ([c280], c161)]
theorem k105_5_0 : chk E5 200 105 n105_5_0 = true := by kernel_rfl
noncomputable def n105_5_1 : List Ent := [([c282], c163), ([c303], c165)]
theorem k105_5_1 : chk E5 200 105 n105_5_1 = true := by kernel_rfl
theorem kk105_5 : ∀ e ∈ n105_5, CallFact Tryz.prog tabs.glob.get 105 e := (all_append (a := n105_5_0) (b := (n105_5_1 ++ [])) (chk_ok okE5 hkE5 k105_5_0) (all_append (a := n105_5_1) (b := []) (chk_ok okE5 hkE5 k105_5_1) (fun _ h => by cases h)))
noncomputable def t105_5 : List Ent := ([c141], c153) :: ([c156], c157) :: ([c158], c159) :: ([c133], c161) :: ([c134], c163) :: ([c136], c165) :: ([c280], c161) :: ([c282], c163) :: ([c303], c165) :: t105_4
theorem ok105_5 : ∀ e ∈ t105_5, CallFact Tryz.prog tabs.glob.get 105 e := all_append (a := n105_5) (b := t105_4) kk105_5 ok105_4
noncomputable def n111_5 : List Ent := [([c141, c141], (.d l1)), ([c141, c158], (.d l5)), ([c141, c156], (.d l5)), ([c141, c133], (.d l5)), ([c141, c134], (.d l5)), ([c141, c136], (.d l5)), ([c158, c141], (.d l2)), ([c158, c158], (.d l1)), ([c158, c156], (.d l5)), ([c158, c133], (.d l5)), ([c158, c134], (.d l5)), ([c158, c136], (.d l5)), ([c156, c141], (.d l2)), ([c156, c158], (.d l2)), ([c156, c156], (.d l1)), ([c156, c133], (.d l5)), ([c156, c134], (.d l5)), ([c156, c136], (.d l5)), ([c133, c141], (.d l2)), ([c133, c158], (.d l2)), ([c133, c156], (.d l2)), ([c133, c133], (.d l1)), ([c133, c134], (.d l5)), ([c133, c136], (.d l5)), ([c134, c141], (.d l2)), ([c134, c158], (.d l2)), ([c134, c156], (.d l2)), ([c134, c133], (.d l2)), ([c134, c134], (.d l1)), ([c134, c136], (.d l5)), ([c136, c141], (.d l2)), ([c136, c158], (.d l2)), ([c136, c156], (.d l2)), ([c136, c133], (.d l2)), ([c136, c134], (.d l2)), ([c136, c136], (.d l1))]
noncomputable def n111_5_0 : List Ent := [([c141, c141], (.d l1)), ([c141, c158], (.d l5)), ([c141, c156], (.d l5)), ([c141, c133], (.d l5)), ([c141, c134], (.d l5)), ([c141, c136], (.d l5)), ([c158, c141], (.d l2)), ([c158, c158], (.d l1)), ([c158, c156], (.d l5)), ([c158, c133], (.d l5)), ([c158, c134], (.d l5)), ([c158, c136], (.d l5))]
theorem k111_5_0 : chk E5 200 111 n111_5_0 = true := by kernel_rfl
noncomputable def n111_5_1 : List Ent := [([c156, c141], (.d l2)), ([c156, c158], (.d l2)), ([c156, c156], (.d l1)), ([c156, c133], (.d l5)), ([c156, c134], (.d l5)), ([c156, c136], (.d l5)), ([c133, c141], (.d l2)), ([c133, c158], (.d l2)), ([c133, c156], (.d l2)), ([c133, c133], (.d l1)), ([c133, c134], (.d l5)), ([c133, c136], (.d l5))]
theorem k111_5_1 : chk E5 200 111 n111_5_1 = true := by kernel_rfl
noncomputable def n111_5_2 : List Ent := [([c134, c141], (.d l2)), ([c134, c158], (.d l2)), ([c134, c156], (.d l2)), ([c134, c133], (.d l2)), ([c134, c134], (.d l1)), ([c134, c136], (.d l5)), ([c136, c141], (.d l2)), ([c136, c158], (.d l2)), ([c136, c156], (.d l2)), ([c136, c133], (.d l2)), ([c136, c134], (.d l2)), ([c136, c136], (.d l1))]
theorem k111_5_2 : chk E5 200 111 n111_5_2 = true := by kernel_rfl
theorem kk111_5 : ∀ e ∈ n111_5, CallFact Tryz.prog tabs.glob.get 111 e := (all_append (a := n111_5_0) (b := (n111_5_1 ++ (n111_5_2 ++ []))) (chk_ok okE5 hkE5 k111_5_0) (all_append (a := n111_5_1) (b := (n111_5_2 ++ [])) (chk_ok okE5 hkE5 k111_5_1) (all_append (a := n111_5_2) (b := []) (chk_ok okE5 hkE5 k111_5_2) (fun _ h => by cases h))))
noncomputable def t111_5 : List Ent := ([c141, c141], (.d l1)) :: ([c141, c158], (.d l5)) :: ([c141, c156], (.d l5)) :: ([c141, c133], (.d l5)) :: ([c141, c134], (.d l5)) :: ([c141, c136], (.d l5)) :: ([c158, c141], (.d l2)) :: ([c158, c158], (.d l1)) :: ([c158, c156], (.d l5)) :: ([c158, c133], (.d l5)) :: ([c158, c134], (.d l5)) :: ([c158, c136], (.d l5)) :: ([c156, c141], (.d l2)) :: ([c156, c158], (.d l2)) :: ([c156, c156], (.d l1)) :: ([c156, c133], (.d l5)) :: ([c156, c134], (.d l5)) :: ([c156, c136], (.d l5)) :: ([c133, c141], (.d l2)) :: ([c133, c158], (.d l2)) :: ([c133, c156], (.d l2)) :: ([c133, c133], (.d l1)) :: ([c133, c134], (.d l5)) :: ([c133, c136], (.d l5)) :: ([c134, c141], (.d l2)) :: ([c134, c158], (.d l2)) :: ([c134, c156], (.d l2)) :: ([c134, c133], (.d l2)) :: ([c134, c134], (.d l1)) :: ([c134, c136], (.d l5)) :: ([c136, c141], (.d l2)) :: ([c136, c158], (.d l2)) :: ([c136, c156], (.d l2)) :: ([c136, c133], (.d l2)) :: ([c136, c134], (.d l2)) :: ([c136, c136], (.d l1)) :: []
theorem ok111_5 : ∀ e ∈ t111_5, CallFact Tryz.prog tabs.glob.get 111 e := all_append (a := n111_5) (b := []) kk111_5 (fun _ h => by cases h)
noncomputable def n113_5 : List Ent := [([c241, c141], c245), ([c240, c141], c249), ([c241, c158], c245), ([c240, c158], c245), ([c241, c156], c245), ([c240, c156], c245), ([c241, c133], c250), ([c240, c133], c250), ([c241, c134], c250), ([c240, c134], c250), ([c241, c136], c250), ([c240, c136], c251), ([c307, c141], c310), ([c307, c136], c316), ([c344, c141], c348), ([c344, c158], c245), ([c344, c156], c245), ([c344, c133], c250), ([c344, c134], c250), ([c344, c136], c350)]
noncomputable def n113_5_0 : List Ent := [([c241, c141], c245), ([c240, c141], c249), ([c241, c158], c245), ([c240, c158], c245), ([c241, c156], c245), ([c240, c156], c245), ([c241, c133], c250), ([c240, c133], c250)]
theorem k113_5_0 : chk E5 200 113 n113_5_0 = true := by kernel_rfl
noncomputable def n113_5_1 : List Ent := [([c241, c134], c250), ([c240, c134], c250), ([c241, c136], c250), ([c240, c136], c251), ([c307, c141], c310), ([c307, c136], c316), ([c344, c141], c348), ([c344, c158], c245)]
theorem k113_5_1 : chk E5 200 113 n113_5_1 = true := by kernel_rfl
noncomputable def n113_5_2 : List Ent := [([c344, c156], c245), ([c344, c133], c250), ([c344, c134], c250), ([c344, c136], c350)]
theorem k113_5_2 : chk E5 200 113 n113_5_2 = true := by kernel_rfl
theorem kk113_5 : ∀ e ∈ n113_5, CallFact Tryz.prog tabs.glob.get 113 e := (all_append (a := n113_5_0) (b := (n113_5_1 ++ (n113_5_2 ++ []))) (chk_ok okE5 hkE5 k113_5_0) (all_append (a := n113_5_1) (b := (n113_5_2 ++ [])) (chk_ok okE5 hkE5 k113_5_1) (all_append (a := n113_5_2) (b := []) (chk_ok okE5 hkE5 k113_5_2) (fun _ h => by cases h))))
noncomputable def t113_5 : List Ent := ([c241, c141], c245) :: ([c240, c141], c249) :: ([c241, c158], c245) :: ([c240, c158], c245) :: ([c241, c156], c245) :: ([c240, c156], c245) :: ([c241, c133], c250) :: ([c240, c133], c250) :: ([c241, c134], c250) :: ([c240, c134], c250) :: ([c241, c136], c250) :: ([c240, c136], c251) :: ([c307, c141], c310) :: ([c307, c136], c316) :: ([c344, c141], c348) :: ([c344, c158], c245) :: ([c344, c156], c245) :: ([c344, c133], c250) :: ([c344, c134], c250) :: ([c344, c136], c350) :: []
theorem ok113_5 : ∀ e ∈ t113_5, CallFact Tryz.prog tabs.glob.get 113 e := all_append (a := n113_5) (b := []) kk113_5 (fun _ h => by cases h)
noncomputable def n114_5 : List Ent := [([c255, c255], c277), ([c266, c255], c148), ([c266, c266], c277)]
noncomputable def n114_5_0 : List Ent := [([c255, c255], c277), ([c266, c255], c148), ([c266, c266], c277)]
theorem k114_5_0 : chk E5 200 114 n114_5_0 = true := by kernel_rfl
theorem kk114_5 : ∀ e ∈ n114_5, CallFact Tryz.prog tabs.glob.get 114 e := (all_append (a := n114_5_0) (b := []) (chk_ok okE5 hkE5 k114_5_0) (fun _ h => by cases h))
noncomputable def t114_5 : List Ent := ([c255, c255], c277) :: ([c266, c255], c148) :: ([c266, c266], c277) :: t114_4
theorem ok114_5 : ∀ e ∈ t114_5, CallFact Tryz.prog tabs.glob.get 114 e := all_append (a := n114_5) (b := t114_4) kk114_5 ok114_4
noncomputable def mm5_1 : Tr (List Ent) := .node 32 (.leaf 24 t24_3) (.leaf 32 t32_4)
theorem mm5_1_ok : mm5_1.All (fun f l => ∀ e ∈ l, CallFact Tryz.prog tabs.glob.get f e) := ⟨ok24_3, ok32_4⟩
noncomputable def mm5_2 : Tr (List Ent) := .node 24 (.leaf 17 t17_4) mm5_1
theorem mm5_2_ok : mm5_2.All (fun f l => ∀ e ∈ l, CallFact Tryz.prog tabs.glob.get f e) := ⟨ok17_4, mm5_1_ok⟩
noncomputable def mm5_3 : Tr (List Ent) := .node 36 (.leaf 34 t34_2) (.leaf 36 t36_3)
theorem mm5_3_ok : mm5_3.All (fun f l => ∀ e ∈ l, CallFact Tryz.prog tabs.glob.get f e) := ⟨ok34_2, ok36_3⟩
noncomputable def mm5_4 : Tr (List Ent) := .node 38 (.leaf 37 t37_2) (.leaf 38 t38_2)
theorem mm5_4_ok : mm5_4.All (fun f l => ∀ e ∈ l, CallFact Tryz.prog tabs.glob.get f e) := ⟨ok37_2, ok38_2⟩
noncomputable def mm5_5 : Tr (List Ent) := .node 37 mm5_3 mm5_4
theorem mm5_5_ok : mm5_5.All (fun f l => ∀ e ∈ l, CallFact Tryz.prog tabs.glob.get f e) := ⟨mm5_3_ok, mm5_4_ok⟩
noncomputable def mm5_6 : Tr (List Ent) := .node 34 mm5_2 mm5_5
theorem mm5_6_ok : mm5_6.All (fun f l => ∀ e ∈ l, CallFact Tryz.prog tabs.glob.get f e) := ⟨mm5_2_ok, mm5_5_ok⟩
noncomputable def mm5_7 : Tr (List Ent) := .node 52 (.leaf 42 t42_5) (.leaf 52 t52_4)
theorem mm5_7_ok : mm5_7.All (fun f l => ∀ e ∈ l, CallFact Tryz.prog tabs.glob.get f e) := ⟨ok42_5, ok52_4⟩
noncomputable def mm5_8 : Tr (List Ent) := .node 42 (.leaf 39 t39_5) mm5_7
theorem mm5_8_ok : mm5_8.All (fun f l => ∀ e ∈ l, CallFact Tryz.prog tabs.glob.get f e) := ⟨ok39_5, mm5_7_ok⟩
noncomputable def mm5_9 : Tr (List Ent) := .node 63 (.leaf 57 t57_1) (.leaf 63 t63_2)
theorem mm5_9_ok : mm5_9.All (fun f l => ∀ e ∈ l, CallFact Tryz.prog tabs.glob.get f e) := ⟨ok57_1, ok63_2⟩
noncomputable def mm5_10 : Tr (List Ent) := .node 97 (.leaf 80 t80_1) (.leaf 97 t97_2)
theorem mm5_10_ok : mm5_10.All (fun f l => ∀ e ∈ l, CallFact Tryz.prog tabs.glob.get f e) := ⟨ok80_1, ok97_2⟩
noncomputable def mm5_11 : Tr (List Ent) := .node 80 mm5_9 mm5_10
theorem mm5_11_ok : mm5_11.All (fun f l => ∀ e ∈ l, CallFact Tryz.prog tabs.glob.get f e) := ⟨mm5_9_ok, mm5_10_ok⟩
noncomputable def mm5_12 : Tr (List Ent) := .node 57 mm5_8 mm5_11
theorem mm5_12_ok : mm5_12.All (fun f l => ∀ e ∈ l, CallFact Tryz.prog tabs.glob.get f e) := ⟨mm5_8_ok, mm5_11_ok⟩
noncomputable def mm5_13 : Tr (List Ent) := .node 39 mm5_6 mm5_12
theorem mm5_13_ok : mm5_13.All (fun f l => ∀ e ∈ l, CallFact Tryz.prog tabs.glob.get f e) := ⟨mm5_6_ok, mm5_12_ok⟩
noncomputable def mm5_14 : Tr (List Ent) := .node 109 (.leaf 105 t105_5) (.leaf 109 t109_4)
theorem mm5_14_ok : mm5_14.All (fun f l => ∀ e ∈ l, CallFact Tryz.prog tabs.glob.get f e) := ⟨ok105_5, ok109_4⟩
noncomputable def mm5_15 : Tr (List Ent) := .node 105 (.leaf 100 t100_2) mm5_14
theorem mm5_15_ok : mm5_15.All (fun f l => ∀ e ∈ l, CallFact Tryz.prog tabs.glob.get f e) := ⟨ok100_2, mm5_14_ok⟩
noncomputable def mm5_16 : Tr (List Ent) := .node 113 (.leaf 112 t112_4) (.leaf 113 t113_5)
theorem mm5_16_ok : mm5_16.All (fun f l => ∀ e ∈ l, CallFact Tryz.prog tabs.glob.get f e) := ⟨ok112_4, ok113_5⟩
noncomputable def mm5_17 : Tr (List Ent) := .node 126 (.leaf 114 t114_5) (.leaf 126 t126_4)
theorem mm5_17_ok : mm5_17.All (fun f l => ∀ e ∈ l, CallFact Tryz.prog tabs.glob.get f e) := ⟨ok114_5, ok126_4⟩
noncomputable def mm5_18 : Tr (List Ent) := .node 114 mm5_16 mm5_17
theorem mm5_18_ok : mm5_18.All (fun f l => ∀ e ∈ l, CallFact Tryz.prog tabs.glob.get f e) := ⟨mm5_16_ok, mm5_17_ok⟩
noncomputable def mm5_19 : Tr (List Ent) := .node 112 mm5_15 mm5_18
theorem mm5_19_ok : mm5_19.All (fun f l => ∀ e ∈ l, CallFact Tryz.prog tabs.glob.get f e) := ⟨mm5_15_ok, mm5_18_ok⟩
noncomputable def mm5_20 : Tr (List Ent) := .node 141 (.leaf 131 t131_3) (.leaf 141 t141_4)
theorem mm5_20_ok : mm5_20.All (fun f l => ∀ e ∈ l, CallFact Tryz.prog tabs.glob.get f e) := ⟨ok131_3, ok141_4⟩
noncomputable def mm5_21 : Tr (List Ent) := .node 131 (.leaf 127 t127_3) mm5_20
theorem mm5_21_ok : mm5_21.All (fun f l => ∀ e ∈ l, CallFact Tryz.prog tabs.glob.get f e) := ⟨ok127_3, mm5_20_ok⟩
noncomputable def mm5_22 : Tr (List Ent) := .node 165 (.leaf 159 t159_2) (.leaf 165 t165_1)
theorem mm5_22_ok : mm5_22.All (fun f l => ∀ e ∈ l, CallFact Tryz.prog tabs.glob.get f e) := ⟨ok159_2, ok165_1⟩
noncomputable def mm5_23 : Tr (List Ent) := .node 196 (.leaf 192 t192_1) (.leaf 196 t196_2)
theorem mm5_23_ok : mm5_23.All (fun f l => ∀ e ∈ l, CallFact Tryz.prog tabs.glob.get f e) := ⟨ok192_1, ok196_2⟩
noncomputable def mm5_24 : Tr (List Ent) := .node 192 mm5_22 mm5_23
theorem mm5_24_ok : mm5_24.All (fun f l => ∀ e ∈ l, CallFact Tryz.prog tabs.glob.get f e) := ⟨mm5_22_ok, mm5_23_ok⟩
noncomputable def mm5_25 : Tr (List Ent) := .node 159 mm5_21 mm5_24
theorem mm5_25_ok : mm5_25.All (fun f l => ∀ e ∈ l, CallFact Tryz.prog tabs.glob.get f e) := ⟨mm5_21_ok, mm5_24_ok⟩
noncomputable def mm5_26 : Tr (List Ent) := .node 127 mm5_19 mm5_25
theorem mm5_26_ok : mm5_26.All (fun f l => ∀ e ∈ l, CallFact Tryz.prog tabs.glob.get f e) := ⟨mm5_19_ok, mm5_25_ok⟩
noncomputable def mm5_27 : Tr (List Ent) := .node 100 mm5_13 mm5_26
theorem mm5_27_ok : mm5_27.All (fun f l => ∀ e ∈ l, CallFact Tryz.prog tabs.glob.get f e) := ⟨mm5_13_ok, mm5_26_ok⟩
noncomputable def memo5 : Tr (List Ent) := mm5_27
theorem memo5_ok : memo5.All (fun f l => ∀ e ∈ l, CallFact Tryz.prog tabs.glob.get f e) := mm5_27_ok
end Go.Proofs.YtockpchpaemfgaaGreatDoor.K
