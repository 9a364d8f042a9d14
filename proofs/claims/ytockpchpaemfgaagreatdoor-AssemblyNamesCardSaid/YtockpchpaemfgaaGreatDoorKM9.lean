/- Facts about calls, level 9. known() answers true, in whatever world in which the table of the trailing zeros holds what its text lays. -/
import Derived.Test.YtockpchpaemfgaaGreatDoorKM8
import Derived.Calls
import Derived.Below
import Derived.WalkKit
set_option linter.all false
set_option maxRecDepth 1000000
namespace Go.Proofs.YtockpchpaemfgaaGreatDoor.K
open Go.Ab
noncomputable def E9 : Env := mkEnv tabs memo8 hooks2 (.leaf 110 sortHook)
theorem okE9 : EnvOK Tryz.prog E9 := env_ok tys_ok fns_ok flats_ok (by kernel_rfl) _ _ _
theorem hkE9 : HooksOK Tryz.prog E9 := hooks_ok memo8_ok (fun E h => hooks2_ok E h) (fun E h => sort_ok E h)
noncomputable def n31_9 : List Ent := [([c196, c212], (.d l18)), ([c196, c289], (.d l27)), ([c196, c337], (.d l2))]
noncomputable def n31_9_0 : List Ent := [([c196, c212], (.d l18)), ([c196, c289], (.d l27)), ([c196, c337], (.d l2))]
theorem k31_9_0 : chk E9 200 31 n31_9_0 = true := by kernel_rfl
theorem kk31_9 : ∀ e ∈ n31_9, CallFact Tryz.prog tabs.glob.get 31 e := (all_append (a := n31_9_0) (b := []) (chk_ok okE9 hkE9 k31_9_0) (fun _ h => by cases h))
noncomputable def t31_9 : List Ent := ([c196, c212], (.d l18)) :: ([c196, c289], (.d l27)) :: ([c196, c337], (.d l2)) :: []
theorem ok31_9 : ∀ e ∈ t31_9, CallFact Tryz.prog tabs.glob.get 31 e := all_append (a := n31_9) (b := []) kk31_9 (fun _ h => by cases h)
noncomputable def mm9_1 : Tr (List Ent) := .node 17 (.leaf 12 t12_8) (.leaf 17 t17_4)
theorem mm9_1_ok : mm9_1.All (fun f l => ∀ e ∈ l, CallFact Tryz.prog tabs.glob.get f e) := ⟨ok12_8, ok17_4⟩
noncomputable def mm9_2 : Tr (List Ent) := .node 24 (.leaf 20 t20_6) (.leaf 24 t24_3)
theorem mm9_2_ok : mm9_2.All (fun f l => ∀ e ∈ l, CallFact Tryz.prog tabs.glob.get f e) := ⟨ok20_6, ok24_3⟩
noncomputable def mm9_3 : Tr (List Ent) := .node 20 mm9_1 mm9_2
theorem mm9_3_ok : mm9_3.All (fun f l => ∀ e ∈ l, CallFact Tryz.prog tabs.glob.get f e) := ⟨mm9_1_ok, mm9_2_ok⟩
noncomputable def mm9_4 : Tr (List Ent) := .node 32 (.leaf 31 t31_9) (.leaf 32 t32_4)
theorem mm9_4_ok : mm9_4.All (fun f l => ∀ e ∈ l, CallFact Tryz.prog tabs.glob.get f e) := ⟨ok31_9, ok32_4⟩
noncomputable def mm9_5 : Tr (List Ent) := .node 36 (.leaf 34 t34_2) (.leaf 36 t36_3)
theorem mm9_5_ok : mm9_5.All (fun f l => ∀ e ∈ l, CallFact Tryz.prog tabs.glob.get f e) := ⟨ok34_2, ok36_3⟩
noncomputable def mm9_6 : Tr (List Ent) := .node 34 mm9_4 mm9_5
theorem mm9_6_ok : mm9_6.All (fun f l => ∀ e ∈ l, CallFact Tryz.prog tabs.glob.get f e) := ⟨mm9_4_ok, mm9_5_ok⟩
noncomputable def mm9_7 : Tr (List Ent) := .node 31 mm9_3 mm9_6
theorem mm9_7_ok : mm9_7.All (fun f l => ∀ e ∈ l, CallFact Tryz.prog tabs.glob.get f e) := ⟨mm9_3_ok, mm9_6_ok⟩
noncomputable def mm9_8 : Tr (List Ent) := .node 38 (.leaf 37 t37_2) (.leaf 38 t38_2)
theorem mm9_8_ok : mm9_8.All (fun f l => ∀ e ∈ l, CallFact Tryz.prog tabs.glob.get f e) := ⟨ok37_2, ok38_2⟩
noncomputable def mm9_9 : Tr (List Ent) := .node 42 (.leaf 39 t39_6) (.leaf 42 t42_5)
theorem mm9_9_ok : mm9_9.All (fun f l => ∀ e ∈ l, CallFact Tryz.prog tabs.glob.get f e) := ⟨ok39_6, ok42_5⟩
noncomputable def mm9_10 : Tr (List Ent) := .node 39 mm9_8 mm9_9
theorem mm9_10_ok : mm9_10.All (fun f l => ∀ e ∈ l, CallFact Tryz.prog tabs.glob.get f e) := ⟨mm9_8_ok, mm9_9_ok⟩
noncomputable def mm9_11 : Tr (List Ent) := .node 52 (.leaf 50 t50_7) (.leaf 52 t52_4)
theorem mm9_11_ok : mm9_11.All (fun f l => ∀ e ∈ l, CallFact Tryz.prog tabs.glob.get f e) := ⟨ok50_7, ok52_4⟩
noncomputable def mm9_12 : Tr (List Ent) := .node 70 (.leaf 63 t63_2) (.leaf 70 t70_6)
theorem mm9_12_ok : mm9_12.All (fun f l => ∀ e ∈ l, CallFact Tryz.prog tabs.glob.get f e) := ⟨ok63_2, ok70_6⟩
noncomputable def mm9_13 : Tr (List Ent) := .node 63 (.leaf 57 t57_1) mm9_12
theorem mm9_13_ok : mm9_13.All (fun f l => ∀ e ∈ l, CallFact Tryz.prog tabs.glob.get f e) := ⟨ok57_1, mm9_12_ok⟩
noncomputable def mm9_14 : Tr (List Ent) := .node 57 mm9_11 mm9_13
theorem mm9_14_ok : mm9_14.All (fun f l => ∀ e ∈ l, CallFact Tryz.prog tabs.glob.get f e) := ⟨mm9_11_ok, mm9_13_ok⟩
noncomputable def mm9_15 : Tr (List Ent) := .node 50 mm9_10 mm9_14
theorem mm9_15_ok : mm9_15.All (fun f l => ∀ e ∈ l, CallFact Tryz.prog tabs.glob.get f e) := ⟨mm9_10_ok, mm9_14_ok⟩
noncomputable def mm9_16 : Tr (List Ent) := .node 37 mm9_7 mm9_15
theorem mm9_16_ok : mm9_16.All (fun f l => ∀ e ∈ l, CallFact Tryz.prog tabs.glob.get f e) := ⟨mm9_7_ok, mm9_15_ok⟩
noncomputable def mm9_17 : Tr (List Ent) := .node 80 (.leaf 77 t77_8) (.leaf 80 t80_1)
theorem mm9_17_ok : mm9_17.All (fun f l => ∀ e ∈ l, CallFact Tryz.prog tabs.glob.get f e) := ⟨ok77_8, ok80_1⟩
noncomputable def mm9_18 : Tr (List Ent) := .node 100 (.leaf 97 t97_2) (.leaf 100 t100_2)
theorem mm9_18_ok : mm9_18.All (fun f l => ∀ e ∈ l, CallFact Tryz.prog tabs.glob.get f e) := ⟨ok97_2, ok100_2⟩
noncomputable def mm9_19 : Tr (List Ent) := .node 97 mm9_17 mm9_18
theorem mm9_19_ok : mm9_19.All (fun f l => ∀ e ∈ l, CallFact Tryz.prog tabs.glob.get f e) := ⟨mm9_17_ok, mm9_18_ok⟩
noncomputable def mm9_20 : Tr (List Ent) := .node 108 (.leaf 105 t105_5) (.leaf 108 t108_7)
theorem mm9_20_ok : mm9_20.All (fun f l => ∀ e ∈ l, CallFact Tryz.prog tabs.glob.get f e) := ⟨ok105_5, ok108_7⟩
noncomputable def mm9_21 : Tr (List Ent) := .node 113 (.leaf 112 t112_4) (.leaf 113 t113_6)
theorem mm9_21_ok : mm9_21.All (fun f l => ∀ e ∈ l, CallFact Tryz.prog tabs.glob.get f e) := ⟨ok112_4, ok113_6⟩
noncomputable def mm9_22 : Tr (List Ent) := .node 112 (.leaf 109 t109_4) mm9_21
theorem mm9_22_ok : mm9_22.All (fun f l => ∀ e ∈ l, CallFact Tryz.prog tabs.glob.get f e) := ⟨ok109_4, mm9_21_ok⟩
noncomputable def mm9_23 : Tr (List Ent) := .node 109 mm9_20 mm9_22
theorem mm9_23_ok : mm9_23.All (fun f l => ∀ e ∈ l, CallFact Tryz.prog tabs.glob.get f e) := ⟨mm9_20_ok, mm9_22_ok⟩
noncomputable def mm9_24 : Tr (List Ent) := .node 105 mm9_19 mm9_23
theorem mm9_24_ok : mm9_24.All (fun f l => ∀ e ∈ l, CallFact Tryz.prog tabs.glob.get f e) := ⟨mm9_19_ok, mm9_23_ok⟩
noncomputable def mm9_25 : Tr (List Ent) := .node 126 (.leaf 114 t114_5) (.leaf 126 t126_4)
theorem mm9_25_ok : mm9_25.All (fun f l => ∀ e ∈ l, CallFact Tryz.prog tabs.glob.get f e) := ⟨ok114_5, ok126_4⟩
noncomputable def mm9_26 : Tr (List Ent) := .node 131 (.leaf 127 t127_3) (.leaf 131 t131_3)
theorem mm9_26_ok : mm9_26.All (fun f l => ∀ e ∈ l, CallFact Tryz.prog tabs.glob.get f e) := ⟨ok127_3, ok131_3⟩
noncomputable def mm9_27 : Tr (List Ent) := .node 127 mm9_25 mm9_26
theorem mm9_27_ok : mm9_27.All (fun f l => ∀ e ∈ l, CallFact Tryz.prog tabs.glob.get f e) := ⟨mm9_25_ok, mm9_26_ok⟩
noncomputable def mm9_28 : Tr (List Ent) := .node 159 (.leaf 141 t141_4) (.leaf 159 t159_2)
theorem mm9_28_ok : mm9_28.All (fun f l => ∀ e ∈ l, CallFact Tryz.prog tabs.glob.get f e) := ⟨ok141_4, ok159_2⟩
noncomputable def mm9_29 : Tr (List Ent) := .node 196 (.leaf 192 t192_1) (.leaf 196 t196_2)
theorem mm9_29_ok : mm9_29.All (fun f l => ∀ e ∈ l, CallFact Tryz.prog tabs.glob.get f e) := ⟨ok192_1, ok196_2⟩
noncomputable def mm9_30 : Tr (List Ent) := .node 192 (.leaf 165 t165_1) mm9_29
theorem mm9_30_ok : mm9_30.All (fun f l => ∀ e ∈ l, CallFact Tryz.prog tabs.glob.get f e) := ⟨ok165_1, mm9_29_ok⟩
noncomputable def mm9_31 : Tr (List Ent) := .node 165 mm9_28 mm9_30
theorem mm9_31_ok : mm9_31.All (fun f l => ∀ e ∈ l, CallFact Tryz.prog tabs.glob.get f e) := ⟨mm9_28_ok, mm9_30_ok⟩
noncomputable def mm9_32 : Tr (List Ent) := .node 141 mm9_27 mm9_31
theorem mm9_32_ok : mm9_32.All (fun f l => ∀ e ∈ l, CallFact Tryz.prog tabs.glob.get f e) := ⟨mm9_27_ok, mm9_31_ok⟩
noncomputable def mm9_33 : Tr (List Ent) := .node 114 mm9_24 mm9_32
theorem mm9_33_ok : mm9_33.All (fun f l => ∀ e ∈ l, CallFact Tryz.prog tabs.glob.get f e) := ⟨mm9_24_ok, mm9_32_ok⟩
noncomputable def mm9_34 : Tr (List Ent) := .node 77 mm9_16 mm9_33
theorem mm9_34_ok : mm9_34.All (fun f l => ∀ e ∈ l, CallFact Tryz.prog tabs.glob.get f e) := ⟨mm9_16_ok, mm9_33_ok⟩
noncomputable def memo9 : Tr (List Ent) := mm9_34
theorem memo9_ok : memo9.All (fun f l => ∀ e ∈ l, CallFact Tryz.prog tabs.glob.get f e) := mm9_34_ok
end Go.Proofs.YtockpchpaemfgaaGreatDoor.K
set_option maxRecDepth 1000000
namespace Go.Proofs.YtockpchpaemfgaaGreatDoor.K
open Go.Ab Go.RowKit
noncomputable def E10 : Env := mkEnv tabs memo9 hooks2 (.leaf 110 sortHook)
theorem okE10 : EnvOK Tryz.prog E10 := env_ok tys_ok fns_ok flats_ok (by kernel_rfl) _ _ _
theorem hkE10 : HooksOK Tryz.prog E10 := hooks_ok memo9_ok (fun E h => hooks2_ok E h) (fun E h => sort_ok E h)
theorem known_chk : chk E10 200 4 [([], .d (.leaf (.bool true)))] = true := by kernel_rfl
theorem known_fact : CallFact Tryz.prog tabs.glob.get 4 ([], .d (.leaf (.bool true))) := chk_ok okE10 hkE10 known_chk _ (List.Mem.head _)

/-- What lay below is as it was, where the abstract memory was empty. -/
theorem ext_below {I I' : Imm} {w w' : World} (h : Ext I noInj .empty w I' noInj .empty w') : Below w.heap.size w w' := by
  refine ⟨h.os, h.tape, h.output, h.size, fun k hk => ?_⟩
  obtain ⟨o, ho⟩ : ∃ o, w.heap[k]? = some o := ⟨w.heap[k], Array.getElem?_eq_getElem hk⟩
  rw [ho]
  cases o with
  | cells c e fr =>
    obtain ⟨c', h1, _, h3⟩ := h.cells k c e fr ho
    have : c' = c := Array.ext_getElem? fun i => h3 i own_none
    rw [h1, this]
  | _ => exact h.objs k _ ho (by intro c e fr hh; cases hh) own_none

def isLeaf : D → Bool
  | .leaf _ => true
  | _ => false

/-- The table of the trailing zeros, as the world holds it. -/
def Laid (w : World) : Prop := ∀ (i : Nat) (v : Value), deb[i]? = some (.leaf v) → w.cell? ⟨2, i, none⟩ = some v

theorem deb_leaf (i : Nat) (x : D) (h : deb[i]? = some x) : ∃ v, x = .leaf v := by
  have hall : deb.all isLeaf = true := by kernel_rfl
  have := List.all_eq_true.1 hall x (List.mem_of_getElem? h)
  cases x with
  | leaf v => exact ⟨v, rfl⟩
  | _ => cases this

theorem glob_get (g : Nat) (ds : List D) (h : tabs.glob.get g = some ds) : g = 2 ∧ ds = deb := by
  have e : tabs.glob = .leaf 2 deb := rfl
  rw [e] at h
  unfold Tr.get at h
  cases hb : Nat.beq g 2 with
  | false => rw [hb] at h; cases h
  | true => rw [hb] at h; cases h; exact ⟨Nat.eq_of_beq_eq_true hb, rfl⟩

theorem f4_body : ∃ c, Tryz.f4.body = some c := Option.isSome_iff_exists.1 (by kernel_rfl)

theorem known_calls (w : World) (hl : Laid w) : Calls Tryz.prog 4 #[] w fun e w' => e = .returned (.bool true) ∧ Below w.heap.size w w' ∧ Laid w' := by
  have h0 : 0 < deb.length := of_decide_eq_true (by kernel_rfl)
  have hcells : ∀ i, i < deb.length → ∃ v, deb[i]? = some (.leaf v) ∧ w.cell? ⟨2, i, none⟩ = some v := fun i hi => by
    obtain ⟨v, hv⟩ := deb_leaf i _ (List.getElem?_eq_getElem hi)
    have e : deb[i]? = some (.leaf v) := by rw [List.getElem?_eq_getElem hi, hv]
    exact ⟨v, e, hl i v e⟩
  have hlt : 2 < w.heap.size := by
    obtain ⟨v, _, hc⟩ := hcells 0 h0
    exact cell?_lt hc
  have hr : RelH (fun b o => b = 2 ∧ o < deb.length) noInj .empty w := relH_empty fun b o ⟨hb, ho⟩ => by
    subst hb
    obtain ⟨v, _, hc⟩ := hcells o ho
    exact ⟨v, hc⟩
  have hg : ∀ g ds, tabs.glob.get g = some ds → CellsD (fun b o => b = 2 ∧ o < deb.length) w g 0 ds := fun g ds hgd => by
    obtain ⟨rfl, rfl⟩ := glob_get g ds hgd
    intro i x hx
    have hi : i < deb.length := (List.getElem?_eq_some_iff.1 hx).1
    obtain ⟨v, hv, hc⟩ := hcells i hi
    rw [hx] at hv
    cases hv
    exact ⟨v, by rw [Nat.zero_add]; exact hc, ⟨rfl, by omega⟩, .leaf v⟩
  have hvs : VRs (fun b o => b = 2 ∧ o < deb.length) noInj w [] [] := ⟨rfl, fun i x v h => by cases h⟩
  obtain ⟨I', w', vm, _, hv, hx, hdo⟩ := known_fact _ w [] hr hvs hg
  have hvm : vm = .bool true := by
    cases hv with
    | d hd => cases hd; rfl
  subst hvm
  have hb := ext_below hx
  have hl' : Laid w' := fun i v hi => by rw [hb.cell (p := ⟨2, i, none⟩) hlt]; exact hl i v hi
  rcases hdo with ⟨_, hrun⟩ | hval
  · intro cs
    obtain ⟨fr, h1, h2, h3⟩ := hrun cs
    exact ⟨.returned (.bool true), w', fr, ⟨rfl, hb, hl'⟩, h1, h2, h3⟩
  · exfalso
    obtain ⟨c, hc⟩ := f4_body
    have hn : (Tryz.f4.name == "runtime.NumGoroutine") = false := by kernel_rfl
    have hn' : Tryz.f4.name ≠ "runtime.NumGoroutine" := by simpa using hn
    simp [callFunc, Tryz.func4, hn', hc] at hval
#print axioms known_calls
end Go.Proofs.YtockpchpaemfgaaGreatDoor.K
