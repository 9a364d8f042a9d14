/- The comparison of the six normals, by their ranks. -/
import Derived.Test.YtockpchpaemfgaaGreatDoorKM7
import Derived.Test.YtockpchpaemfgaaGreatDoorAbMemo
set_option linter.all false
set_option maxRecDepth 1000000
namespace Go.Proofs.YtockpchpaemfgaaGreatDoor.K
open Go.Ab

def rankOf (g : List D) : Nat → List (List D) → Option Nat
  | _, [] => none
  | i, r :: rs => match eqDs g r with
    | true => some i
    | false => rankOf g (Nat.succ i) rs
noncomputable def getR (i : Nat) : List D := match nth ranks i with
  | some r => r
  | none => []

theorem rankOf_spec {g : List D} : ∀ {rs : List (List D)} {i j : Nat}, rankOf g i rs = some j → ∃ q, j = i + q ∧ rs[q]? = some g := by
  intro rs
  induction rs with
  | nil => intro i j h; cases h
  | cons r rs ih =>
    intro i j h
    simp only [rankOf] at h
    split at h
    · rename_i he
      cases h
      have := eqDs_eq he
      subst this
      exact ⟨0, rfl, rfl⟩
    · obtain ⟨q, h1, h2⟩ := ih h
      exact ⟨q + 1, by omega, by simpa using h2⟩
theorem rankOf_get {g : List D} {j : Nat} (h : rankOf g 0 ranks = some j) : g = getR j ∧ j < 6 := by
  obtain ⟨q, rfl, hq⟩ := rankOf_spec h
  rw [Nat.zero_add]
  unfold getR
  rw [nth_eq, hq]
  refine ⟨rfl, ?_⟩
  have := (List.getElem?_eq_some_iff.1 hq).1
  exact this

def cmpI (i j : Nat) : Int := bif Nat.beq i j then .ofNat 0 else bif Nat.ble i j then .negSucc 0 else .ofNat 1
noncomputable def cmpHook : List AV → Option AV
  | [.agg xs, .agg ys] => match allD xs, allD ys with
    | some x, some y => match rankOf x 0 ranks, rankOf y 0 ranks with
      | some i, some j => some (leaf (.int .i64 (cmpI i j)))
      | _, _ => none
    | _, _ => none
  | _ => none

noncomputable def mkCmp (i j : Nat) : Ent := ([.agg ((getR i).map .d), .agg ((getR j).map .d)], leaf (.int .i64 (cmpI i j)))

def memE (e : Ent) : List Ent → Bool
  | [] => false
  | x :: l => match avEqs x.1 e.1, avEq x.2 e.2 with
    | true, true => true
    | _, _ => memE e l
theorem memE_mem {e : Ent} : ∀ {l : List Ent}, memE e l = true → e ∈ l := by
  intro l
  induction l with
  | nil => intro h; cases h
  | cons x l ih =>
    intro h
    simp only [memE] at h
    split at h
    · rename_i h1 h2
      have e1 := avEqs_eq h1
      have e2 := avEq_eq h2
      obtain ⟨a, b⟩ := x
      obtain ⟨c, d⟩ := e
      dsimp only at e1 e2
      subst e1 e2
      exact .head _
    · exact .tail _ (ih h)

def allBelow (p : Nat → Bool) : Nat → Bool
  | 0 => true
  | i + 1 => match p i with
    | true => allBelow p i
    | false => false
theorem allBelow_spec {p : Nat → Bool} : ∀ {n : Nat}, allBelow p n = true → ∀ i, i < n → p i = true := by
  intro n
  induction n with
  | zero => intro _ i h; omega
  | succ n ih =>
    intro h i hi
    simp only [allBelow] at h
    split at h
    · rename_i hp
      by_cases e : i = n
      · subst e; exact hp
      · exact ih h i (by omega)
    · cases h

theorem cmp_all : allBelow (fun i => allBelow (fun j => memE (mkCmp i j) n111_5) 6) 6 = true := by kernel_rfl

theorem cmp_ok (E : Env) (hE : E.glob = tabs.glob.get) : HookOK Tryz.prog E 111 cmpHook := by
  intro args v h _ I w vs hr hs hg
  unfold cmpHook at h
  split at h
  case h_2 => cases h
  rename_i xs ys
  split at h
  case h_2 => cases h
  rename_i x y hx hy
  split at h
  case h_2 => cases h
  rename_i i j hi hj
  cases h
  obtain ⟨rfl, hi6⟩ := rankOf_get hi
  obtain ⟨rfl, hj6⟩ := rankOf_get hj
  have e1 := allD_spec hx
  have e2 := allD_spec hy
  subst e1 e2
  have hm := memE_mem (allBelow_spec (allBelow_spec cmp_all i hi6) j hj6)
  exact kk111_5 _ hm I w vs hr hs (by rw [← hE]; exact hg)

noncomputable def hooks2 : Tr (List AV → Option AV) := .node 274 (.leaf 111 cmpHook) (.leaf 274 idxHook)
theorem hooks2_ok (E : Env) (hE : E.glob = tabs.glob.get) : hooks2.All fun f h => HookOK Tryz.prog E f h := ⟨cmp_ok E hE, idx_ok E⟩

/-- The tables in which the sort is run. -/
noncomputable def ES : Env := mkEnv tabs .nil hooks2 .nil
theorem okES : EnvOK Tryz.prog ES := env_ok tys_ok fns_ok flats_ok (by kernel_rfl) _ _ _
theorem hkES : HooksOK Tryz.prog ES := hooks_ok trivial hooks2_ok (fun _ _ => trivial)

noncomputable def rowOf : List Nat → List D
  | [] => []
  | i :: l => getR i ++ rowOf l

noncomputable def chkS (l : List Nat) : Bool :=
  match (ev ES 200).call 110 [.sl 0 0 6 12 none, .d (.fn 111 [])] (Heap.empty.push (.cells 0 ((rowOf l).map .d))) with
  | some (.tup [], H1) => match H1.get 0 with
    | .cells 0 cs => match allD cs with
      | some ds => eqDs ds ranks.flatten
      | none => false
    | _ => false
  | _ => false

def forPerms (n : Nat) (k : List Nat → Bool) : Nat → List Nat → Bool
  | 0, acc => k acc
  | r + 1, acc => allBelow (fun i => bif isIn i acc then true else forPerms n k r (i :: acc)) n

theorem forPerms_spec {n : Nat} {k : List Nat → Bool} : ∀ {r : Nat} {acc : List Nat}, forPerms n k r acc = true → ∀ pre : List Nat, pre.length = r → (pre ++ acc).Nodup → (∀ x ∈ pre, x < n) → k (pre ++ acc) = true := by
  intro r
  induction r with
  | zero =>
    intro acc h pre hl _ _
    have := List.eq_nil_of_length_eq_zero hl
    subst this; exact h
  | succ r ih =>
    intro acc h pre hl hnd hlt
    rcases List.eq_nil_or_concat pre with rfl | ⟨pre', i, rfl⟩
    · simp at hl
    · rw [List.concat_eq_append] at hl hnd hlt ⊢
      rw [List.append_assoc] at hnd ⊢
      have hi : i < n := hlt i (by simp)
      have hia : i ∉ acc := by
        have := (List.nodup_append.1 hnd).2.1
        exact (List.nodup_cons.1 this).1
      have hp := allBelow_spec (n := n) (by simpa only [forPerms] using h) i hi
      have hb : isIn i acc = false := by rw [← Bool.not_eq_true, isIn_mem]; exact hia
      rw [hb] at hp
      exact ih hp pre' (by simpa using hl) hnd (fun x hx => hlt x (by simp [hx]))
end Go.Proofs.YtockpchpaemfgaaGreatDoor.K
