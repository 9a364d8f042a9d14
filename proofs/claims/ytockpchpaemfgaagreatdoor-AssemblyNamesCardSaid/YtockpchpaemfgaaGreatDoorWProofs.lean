/- AssemblyNames answers true for every string and every size, and leaves its arguments as they were; condition: the row's listed variables hold what the program's text lays. -/
import Derived.Test.YtockpchpaemfgaaGreatDoorRows
import Derived.Test.YtockpchpaemfgaaGreatDoorTie
import Derived.Test.YtockpchpaemfgaaGreatDoorCards
import Derived.Test.YtockpchpaemfgaaGreatDoorWMain
import Derived.Test.YtockpchpaemfgaaGreatDoorKM9
import Derived.ChangeSame
import Derived.ChangeVars
import Derived.ChangeMaps5
import Derived.JoinedOf
import Derived.JoinedAt
import Derived.RowKit
import Derived.RowKit3
import Derived.RowKitTokens
import Derived.LaidLaws
import Derived.LaidHandle
import Derived.Lib.LaidU8
import Derived.SizedLaws
import Derived.SevenTiedAt
set_option linter.all false
namespace Go.Proofs.YtockpchpaemfgaaGreatDoor
open Go.ChangeShapes Go.WideShapes Go.ChangeAt Go.RowKit
open Go.ChangeMaps (open_string shut_string)

theorem Tryz.own : ownKnob Tryz.prog.godebug = none := by kernel_rfl

-- ---------------------------------------------------------------- one start that fits
def cellsD : DataW Unit → List Value
  | .agg l => l.flatMap fun
    | .lit (.int k z) => [.int k z]
    | .agg m => m.flatMap fun
      | .lit (.int k z) => [.int k z]
      | _ => []
    | _ => []
  | _ => []
abbrev synS : ByteArray := { data := #[105, 110, 118, 97, 108, 105, 100, 32, 115, 121, 110, 116, 97, 120] }
abbrev rngS : ByteArray := { data := #[118, 97, 108, 117, 101, 32, 111, 117, 116, 32, 111, 102, 32, 114, 97, 110, 103, 101] }
noncomputable def low : Nat := (World.holding Tryz.prog default ⟨#[], #[], []⟩).heap.size
noncomputable def laidWorld (os : Os) : World :=
  let w0 := World.holding Tryz.prog os ⟨#[.cells #[.string synS] 362, .cells #[.string rngS] 362], #[], []⟩
  let put (h : Array Obj) (g : Nat) (cs : Array Value) : Array Obj := h.modify g fun
    | .cells _ t frozen => .cells cs t frozen
    | o => o
  let h0 := put w0.heap 0 (cellsD Rows.laid_internal_strconv_uint64pow10).toArray
  let h2 := put h0 2 (cellsD Rows.laid_math_bits_deBruijn64tab).toArray
  let h3 := put h2 3 (cellsD Rows.laid_math_bits_deBruijn32tab).toArray
  let h4 := put h3 4 (cellsD Rows.laid_unicode_utf8_first).toArray
  let h5 := put h4 5 (cellsD Rows.laid_unicode_utf8_acceptRanges).toArray
  let h6 := put h5 6 #[.iface 360 (.pointer (some ⟨low, 0, none⟩))]
  let h7 := put h6 7 #[.iface 360 (.pointer (some ⟨low + 1, 0, none⟩))]
  { w0 with heap := h7 }

theorem noHandles : (Rows.assemblyNamesRow.laid.filter fun x => x.2.handleName?.isSome) = [] := by kernel_rfl
theorem laidMet_of_H {W : World} (h : laidMetH Tryz.prog Rows.assemblyNamesRow.laid W) : laidMet Tryz.prog Rows.assemblyNamesRow.laid W := by
  unfold laidMetH at h
  rw [noHandles] at h
  exact h
theorem laidMetH_of {W : World} (h : laidMet Tryz.prog Rows.assemblyNamesRow.laid W) : laidMetH Tryz.prog Rows.assemblyNamesRow.laid W := by
  unfold laidMetH
  rw [noHandles]
  exact h
theorem laidWorld_met (os : Os) (args : Array Value) : laidMetH Tryz.prog Rows.assemblyNamesRow.laid ((laidWorld os).forCall (fun _ _ => 0) ⟨#[], args, []⟩).memory :=
  laidMetH_of (laidMet_of_run' 8 (by kernel_rfl) (by kernel_rfl))

-- ---------------------------------------------------------------- the table of the trailing zeros
def zs64 : List Int := [0, 1, 56, 2, 57, 49, 28, 3, 61, 58, 42, 50, 38, 29, 17, 4, 62, 47, 59, 36, 45, 43, 51, 22, 53, 39, 33, 30, 24, 18, 12, 5, 63, 55, 48, 27, 60, 41, 37, 16, 46, 35, 44, 21, 52, 32, 23, 11, 54, 26, 40, 15, 34, 20, 31, 10, 25, 14, 19, 9, 13, 8, 7, 6]
theorem laid64_eq : (Rows.laid_math_bits_deBruijn64tab : DataW Unit) = Lib.tabData .u8 zs64 := rfl
theorem deb_eq : K.deb = zs64.map fun z => Go.Ab.D.leaf (.int .u8 z) := by kernel_rfl
theorem laid_of {W : World} (h : laidMetH Tryz.prog Rows.assemblyNamesRow.laid W) : K.Laid W := by
  have hr := Lib.laidMet.reads (laidMet_of_H h) (.tail _ (.head _))
  obtain ⟨g, t, cs, fuel, p, h1, h2, h3, h4⟩ := hr
  obtain rfl := Option.some.inj ((show Tryz.prog.globalNamed "math/bits.deBruijn64tab" = some 2 by kernel_rfl).symm.trans h1)
  obtain rfl := Option.some.inj ((show (Tryz.prog.globals[2]?).map (·.type) = some 314 by kernel_rfl).symm.trans h2)
  rw [laid64_eq] at h4
  have hcs := Lib.cells_of_tab Tryz.underlying314 Tryz.underlying5 (by kernel_rfl) (by kernel_rfl) h4
  intro i v hv
  rw [World.var?_cell h1 h3 i]
  rw [← Array.getElem?_toList, hcs]
  rw [deb_eq] at hv
  simp only [List.getElem?_map, Option.map_eq_some_iff] at hv ⊢
  obtain ⟨z, hz, he⟩ := hv
  cases he
  exact ⟨z, hz, rfl⟩

theorem u8_bounds {z : Int} (h : (Lit.int .u8 z).wf = true) : 0 ≤ z ∧ z ≤ 255 := by
  have m0 : IntKind.u8.min = 0 := by kernel_rfl
  have m1 : IntKind.u8.max = 255 := by kernel_rfl
  simp only [Lit.wf, Bool.and_eq_true, decide_eq_true_eq] at h
  rw [m0, m1] at h
  exact h

set_option maxRecDepth 100000 in
theorem f_lifted (os : Os) (started : os.Started) (H : Type) (enc : TypeId × Value → H) :
    ReturnsInHanded {} Tryz.checked os 3 .any (fun w args => (Rows.assemblyNamesSpec.pre enc Tryz.prog Tryz.f3 [] false w args ∧ laidMetH Tryz.prog Rows.assemblyNamesRow.laid w) ∧ sizedMet enc Tryz.prog Tryz.f3 (OpenSpec.ofChange Rows.assemblyNamesSpec) false w args)
      (Rows.assemblyNamesSpec.post enc Tryz.prog Tryz.f3 false true false false) := by
  refine returnsInHanded_of_change_and (C := Tryz.checked) (X := fun w _ => laidMetH Tryz.prog Rows.assemblyNamesRow.laid w) (fun _ _ _ hh h => h.of_heap hh) Tryz.own started (by kernel_rfl) Tryz.func3
    (ChangeSpec.witness_at (enc := enc) (C := Tryz.checked) (os := os) (X := fun w _ => laidMetH Tryz.prog Rows.assemblyNamesRow.laid w) false (laidWorld os) #[.string ⟨#[]⟩, .int .u8 0] 8 rfl (by kernel_rfl) (by kernel_rfl) (by kernel_rfl) (by kernel_rfl) (by kernel_rfl) (laidWorld_met os _)) ?_
  intro W base args ds gs before hval0 hW _ _ hL _
  have hval : ∀ (j : Nat) t v, Tryz.f3.params[j]? = some t → args[j]? = some v → Value.okWide Tryz.prog W .any base t v := hval0
  have hW' := hW
  obtain ⟨p, q, hA0, hV, rfl, _, _⟩ := hW
  have hA : DataW.TrodAll enc Tryz.prog W 0 (fun _ => true) true Tryz.f3.params.toList args.toList ds p := hA0
  rw [Tryz.params3] at hA hval
  obtain ⟨v0, v1, d0, d1, p0, p1, rfl, rfl, rfl, h0, h1⟩ := trodAll_two hA
  obtain ⟨rfl, rfl⟩ := trodVars_none hV
  obtain ⟨s, rfl, rfl, rfl, hs⟩ := open_string Tryz.underlying9 (hval 0 9 v0 rfl rfl) h0
  obtain ⟨z, rfl, rfl, rfl, wz⟩ := open_int Tryz.underlying5 (hval 1 5 v1 rfl rfl) h1
  clear hA0 hval0
  simp only [List.append_nil] at hW'
  have hz := u8_bounds wz
  refine (names3 K.Laid K.known_calls s z W (by unfold maxLen at hs; omega) hz.1 hz.2 (laid_of hL)).mono fun e W' ⟨he, hb⟩ => ?_
  subst he
  have e1 : Rows.assemblyNamesSpec.fn H ([.lit (.string s.data.toList), .lit (.int .u8 z)] ++ []) = { results := [.lit (.bool true)], args := [.lit (.string s.data.toList), .lit (.int .u8 z)] } := rfl
  refine ⟨_, rfl, _, _, _, [], [], [], hW', ?_, ?_, ?_, hb.frame _, fun h => by cases h⟩
  · rw [e1]; exact trodAll_mk1 (shut_bool Tryz.underlying4 true)
  · rw [e1]; exact trodAll_mk2 (shut_string Tryz.underlying9 hs) (shut_int Tryz.underlying5 wz)
  · rw [e1]; rfl

theorem f_holds : Rows.AssemblyNamesSaid :=
  OpenClaim.holds_of_wide 3 Tryz.f3 rfl rfl rfl rfl rfl rfl rfl ⟨rfl, rfl, rfl, rfl, rfl⟩ rfl rfl rfl rfl rfl (by kernel_rfl) Tryz.func3 (by kernel_rfl)
    (of_decide_eq_true (by kernel_rfl)) (by unfold Func.isWrapper; rw [if_neg (of_decide_eq_false (by kernel_rfl))]; exact ⟨rfl, rfl⟩)
    (fun os started H enc _ => f_lifted os started H enc)

theorem card_holds : Rows.AssemblyNamesCardSaid :=
  Claim7.holds_tied_plain_at .later [] [.data, .data, .data, .data, .sentinel, .sentinel, .pinned] true (true, "48d16f3963195f0a2fa27b58ca85518ae322699fc31603f12db63fcd785310bd") true
    f_holds (fun _ h => by cases h) (by kernel_rfl) (fun _ h => by cases h) assemblyNames_row_tie rfl ⟨rfl, rfl⟩ (by kernel_rfl) rfl
    (fun f fn hf hfn => by
      obtain rfl : f = 3 := Option.some.inj ((show Tryz.prog.funcNamed "dowel/dowellaw15.AssemblyNames" = some 3 by kernel_rfl).symm.trans hf) |>.symm
      obtain rfl : fn = Tryz.f3 := (Option.some.inj (Tryz.func3.symm.trans hfn)).symm
      exact ⟨by kernel_rfl, fun j t ht => by
        rw [Tryz.params3] at ht
        have h3 : t = 9 ∨ t = 5 := by
          rcases j with _ | _ | j
          · left; simpa using ht.symm
          · right; simpa using ht.symm
          · simp at ht
        rcases h3 with rfl | rfl
        · exact (show Tryz.prog.wantsStandIn 9 = false by kernel_rfl)
        · exact (show Tryz.prog.wantsStandIn 5 = false by kernel_rfl)⟩)
    (by kernel_rfl)
#print axioms card_holds
end Go.Proofs.YtockpchpaemfgaaGreatDoor
