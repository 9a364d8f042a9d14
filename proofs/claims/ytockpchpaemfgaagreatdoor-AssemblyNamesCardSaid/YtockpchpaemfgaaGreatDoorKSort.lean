/- slices.SortFunc on the six normals, whatever their order. -/
import Derived.Test.YtockpchpaemfgaaGreatDoorKP0
import Derived.Test.YtockpchpaemfgaaGreatDoorKP1
import Derived.Test.YtockpchpaemfgaaGreatDoorKP2
import Derived.Test.YtockpchpaemfgaaGreatDoorKP3
import Derived.Test.YtockpchpaemfgaaGreatDoorKP4
import Derived.Test.YtockpchpaemfgaaGreatDoorKP5
set_option linter.all false
set_option maxRecDepth 100000
namespace Go.Proofs.YtockpchpaemfgaaGreatDoor.K
open Go.Ab

/-- The ranks of k rows of 12 cells. -/
def ranksOf (rs : List (List D)) : Nat → List D → Option (List Nat)
  | 0, l => match l with
    | [] => some []
    | _ => none
  | k + 1, l => match front l 12, skip l 12 with
    | some a, some b => match rankOf a 0 rs, ranksOf rs k b with
      | some i, some is => some (i :: is)
      | _, _ => none
    | _, _ => none
def allIn (n : Nat) : List Nat → List Nat → Bool
  | _, [] => true
  | seen, i :: is => bif isIn i seen then false else bif Nat.ble n i then false else allIn n (i :: seen) is

noncomputable def sortHook : List AV → Heap → Option (AV × Heap)
  | [.sl b off 6 12 none, .d (.fn 111 [])], H => match H.get b with
    | .cells m cs => match Nat.ble m off, Nat.beq cs.length (Nat.add off 72), cut cs off 72 with
      | true, true, some row => match allD row with
        | some ds => match ranksOf ranks 6 ds with
          | some is => match allIn 6 [] is with
            | true => some (.tup [], H.set b (.cells m (spl cs off (ranks.flatten.map .d))))
            | false => none
          | none => none
        | none => none
      | _, _, _ => none
    | _ => none
  | _, _ => none

theorem ranksOf_spec : ∀ {k : Nat} {l : List D} {is : List Nat}, ranksOf ranks k l = some is → l = rowOf is ∧ is.length = k := by
  intro k
  induction k with
  | zero =>
    intro l is h
    simp only [ranksOf] at h
    split at h
    · cases h; exact ⟨rfl, rfl⟩
    · cases h
  | succ k ih =>
    intro l is h
    simp only [ranksOf] at h
    split at h
    case h_2 => cases h
    rename_i a b ha hb
    split at h
    case h_2 => cases h
    rename_i i is' hi hr
    cases h
    obtain ⟨h1, h2⟩ := ih hr
    obtain ⟨f1, f2, f3⟩ := front_spec ha
    obtain ⟨s1, s2⟩ := skip_spec hb
    obtain ⟨e, _⟩ := rankOf_get hi
    refine ⟨?_, by simp [h2]⟩
    show l = getR i ++ rowOf is'
    rw [← h1, ← e, f2, s2, List.take_append_drop]

theorem allIn_spec {n : Nat} : ∀ {is seen : List Nat}, allIn n seen is = true → is.Nodup ∧ (∀ x ∈ is, x < n) ∧ ∀ x ∈ is, x ∉ seen := by
  intro is
  induction is with
  | nil => intro seen _; simp
  | cons i is ih =>
    intro seen h
    simp only [allIn] at h
    cases hi : isIn i seen with
    | true => rw [hi] at h; cases h
    | false =>
      rw [hi] at h
      simp only [cond_false] at h
      cases hn : Nat.ble n i with
      | true => rw [hn] at h; cases h
      | false =>
        rw [hn] at h
        simp only [cond_false] at h
        have hn := of_nble_f hn
        have hi : i ∉ seen := by rw [← isIn_mem, hi]; simp
        obtain ⟨a, b, c⟩ := ih h
        refine ⟨List.nodup_cons.2 ⟨fun hm => c i hm (.head _), a⟩, fun x hx => ?_, fun x hx => ?_⟩
        · cases hx with
          | head => omega
          | tail _ hx => exact b x hx
        · cases hx with
          | head => exact hi
          | tail _ hx => exact fun hs => c x hx (.tail _ hs)

theorem chk_all {is : List Nat} (h1 : is.length = 6) (h2 : is.Nodup) (h3 : ∀ x ∈ is, x < 6) : chkS is = true := by
  rcases List.eq_nil_or_concat is with rfl | ⟨pre, a, rfl⟩
  · simp at h1
  · rw [List.concat_eq_append] at h1 h2 h3 ⊢
    have hl : pre.length = 5 := by simpa using h1
    have hp : ∀ x ∈ pre, x < 6 := fun x hx => h3 x (by simp [hx])
    have ha : a < 6 := h3 a (by simp)
    rcases (show a = 0 ∨ a = 1 ∨ a = 2 ∨ a = 3 ∨ a = 4 ∨ a = 5 by omega) with rfl | rfl | rfl | rfl | rfl | rfl
    · exact p_0 pre hl h2 hp
    · exact p_1 pre hl h2 hp
    · exact p_2 pre hl h2 hp
    · exact p_3 pre hl h2 hp
    · exact p_4 pre hl h2 hp
    · exact p_5 pre hl h2 hp

theorem ranks_len : ranks.flatten.length = 72 := by kernel_rfl

theorem sort_hook_ok (E : Env) (hE : E.glob = tabs.glob.get) : SHookOK Tryz.prog E 110 sortHook := by
  intro args H v H' h I ι w vs hr hs hg
  unfold sortHook at h
  split at h
  case h_2 => cases h
  rename_i b off
  split at h
  case h_2 => cases h
  rename_i m cs hget
  split at h
  case h_2 => cases h
  rename_i row hm hlen hcut
  split at h
  case h_2 => cases h
  rename_i ds hds
  split at h
  case h_2 => cases h
  rename_i is his
  split at h
  case h_2 => cases h
  rename_i hall
  cases h
  have hm := of_nble hm
  have hlen : cs.length = off + 72 := of_nbeq hlen
  have := allD_spec hds
  subst this
  obtain ⟨rfl, hisl⟩ := ranksOf_spec his
  obtain ⟨hnd, hlt, _⟩ := allIn_spec hall
  have hc := chk_all hisl hnd hlt
  have hrl : (rowOf is).length = 72 := by have := (cut_spec hcut).2.2; simpa using this
  unfold chkS at hc
  split at hc
  case h_2 => cases hc
  rename_i H1 hcall
  split at hc
  case h_2 => cases hc
  rename_i cs1 hg1
  split at hc
  case h_2 => cases hc
  rename_i ds1 hds1
  have e1 := allD_spec hds1
  have e2 := eqDs_eq hc
  subst e1 e2
  have hsim := ev_call okES hkES hcall
  obtain ⟨s1, vs1, rfl, hv1, hs1⟩ := hs.uncons
  obtain ⟨s2, vs2, rfl, hv2, hs2⟩ := hs1.uncons
  have := hs2.unnil; subst this
  cases hv1 with
  | sl hb hc' hk hbase hext =>
    rename_i c k o e base
    have hce := hext rfl
    have hbr := hr.blk b _ hb
    rw [hget] at hbr
    have hle : cs.length ≤ e := hbr.2.1
    have hgS : GlobOK ES I w := fun g ds hg' => hg g ds (by rw [hE]; exact hg')
    rcases hbase with hb0 | hb0
    · omega
    · subst hb0
      obtain ⟨I', ι1, w', vm, a1, a2, a3, a4, a5⟩ := frame_call (E := ES) (L := 72) hsim hg1 hrl ranks_len hr hgS hb hget hm hlen hcut (vs := [.slice (some ⟨k, o + off, none⟩) 6 c, s2])
        ((VRs.nil.cons (vr_pure (x := .d (.fn 111 [])) rfl hv2)).cons (.sl (Inj.put_same (ι := noInj)) hc' (by simp) (.inr rfl) (by intro _; omega)))
      refine ⟨I', ι, w', vm, a1, ?_, a3, fun _ _ => rfl, .inl ⟨a4, a5⟩⟩
      obtain ⟨us, rfl, hu⟩ := vr_tup a2
      have := hu.unnil; subst this
      exact VR.tup' VRs.nil
theorem sort_ok (E : Env) (hE : E.glob = tabs.glob.get) : (Tr.leaf 110 sortHook).All fun f h => SHookOK Tryz.prog E f h := sort_hook_ok E hE
end Go.Proofs.YtockpchpaemfgaaGreatDoor.K
