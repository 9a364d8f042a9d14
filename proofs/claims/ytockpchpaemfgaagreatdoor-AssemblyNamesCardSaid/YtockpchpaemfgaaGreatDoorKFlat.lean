/- Types whose values are rows of numbers or of strings. -/
import Derived.Test.YtockpchpaemfgaaGreatDoorKTab
import Derived.WalkKit
set_option linter.all false
set_option maxRecDepth 100000
namespace Go.Proofs.YtockpchpaemfgaaGreatDoor.K
open Go.Ab

theorem sc_nil {xs ys : List Value} {b : Bool} (h : sameCells [] (xs.map leaf) (ys.map leaf) = some b) : xs = [] ∧ ys = [] ∧ b = true := by
  cases xs <;> cases ys <;> simp [sameCells, leaf] at h ⊢
  exact h
theorem sc_cons {k : LK} {ks : List LK} {xs ys : List Value} {b : Bool} (h : sameCells (k :: ks) (xs.map leaf) (ys.map leaf) = some b) :
    ∃ x xs' y ys' b1 b2, xs = x :: xs' ∧ ys = y :: ys' ∧ sameLeaf k x y = some b1 ∧ sameCells ks (xs'.map leaf) (ys'.map leaf) = some b2 ∧ b = (b1 && b2) := by
  cases xs <;> cases ys <;> simp only [List.map_nil, List.map_cons, leaf, sameCells] at h
  · cases h
  · cases h
  · cases h
  · split at h
    · rename_i x xs' y ys' b1 b2 h1 h2
      cases h
      exact ⟨_, _, _, _, b1, b2, rfl, rfl, h1, h2, rfl⟩
    · cases h
theorem sl_int {x y : Value} {b : Bool} (h : sameLeaf .int x y = some b) : ∃ k n m, x = .int k n ∧ y = .int k m ∧ b = (n == m) := by
  unfold sameLeaf at h
  split at h <;> try (simp_all; done)
  rename_i k a k' c _
  cases hk : Nat.beq (kindN k) (kindN k') with
  | false => rw [hk] at h; cases h
  | true =>
    rw [hk] at h
    have := kind_eq hk; subst this
    simp only [cond_true, Option.some.injEq, intEq_eq] at h
    exact ⟨k, a, c, rfl, rfl, h.symm⟩
theorem sl_str {x y : Value} {b : Bool} (h : sameLeaf .str x y = some b) : ∃ s t : ByteArray, x = .string s ∧ y = .string t ∧ b = (s == t) := by
  unfold sameLeaf at h
  split at h <;> try (simp_all; done)
  rename_i s t _
  simp only [Option.some.injEq] at h
  exact ⟨s, t, rfl, rfl, (strEq_beq h).symm⟩


theorem flat54 : FlatQ Tryz.prog 54 [.int, .int, .int] := by
  have ut := Tryz.runUnderlying54
  have se := Tryz.sizeOf3
  have ae := Tryz.isAgg3
  have ue := Tryz.runUnderlying3
  constructor
  · intro xs ys b h w
    obtain ⟨x0, xs1, y0, ys1, b0, c0, rfl, rfl, h0, g0, rfl⟩ := sc_cons h
    obtain ⟨x1, xs2, y1, ys2, b1, c1, rfl, rfl, h1, g1, rfl⟩ := sc_cons g0
    obtain ⟨x2, xs3, y2, ys3, b2, c2, rfl, rfl, h2, g2, rfl⟩ := sc_cons g1
    obtain ⟨rfl, rfl, rfl⟩ := sc_nil g2
    obtain ⟨k0, n0, m0, rfl, rfl, rfl⟩ := sl_int h0
    obtain ⟨k1, n1, m1, rfl, rfl, rfl⟩ := sl_int h1
    obtain ⟨k2, n2, m2, rfl, rfl, rfl⟩ := sl_int h2
    clear h h0 h1 h2 g0 g1 g2
    constructor
    · intro op x y
      have hg := Tryz.eqGuardType54
      cases op <;> simp [eqGuard, hg]
    · obtain ⟨d, hd⟩ : ∃ d, Op.maxDepth = d + 2 := ⟨_, rfl⟩
      unfold Op.equal
      rw [hd]
      have q : ∀ d (k : IntKind) (a c : Int), (Op.equalIn (d + 1) 3 (.int k a) (.int k c)).run Tryz.prog w = .ok (a == c) w := by
        intro d
        intros
        unfold Op.equalIn
        simp only [Sem.run_bind, ue, Result.andThen_ok, if_true, Sem.run_pure]
      unfold Op.equalIn
      simp only [Sem.run_bind, ut, Result.andThen_ok, se]
      simp [List.range', List.forIn_cons, part, ae, se, q]
      by_cases e0 : n0 = m0 <;> by_cases e1 : n1 = m1 <;> by_cases e2 : n2 = m2 <;> (try simp [e0, e1, e2, q])
  · intro xs b h w em
    obtain ⟨x0, xs1, y0, ys1, b0, c0, rfl, e0, h0, g0, rfl⟩ := sc_cons h
    cases e0
    obtain ⟨x1, xs2, y1, ys2, b1, c1, rfl, e1, h1, g1, rfl⟩ := sc_cons g0
    cases e1
    obtain ⟨x2, xs3, y2, ys3, b2, c2, rfl, e2, h2, g2, rfl⟩ := sc_cons g1
    cases e2
    obtain ⟨rfl, e3, rfl⟩ := sc_nil g2
    obtain ⟨k0, n0, m0, rfl, e, _⟩ := sl_int h0
    cases e
    obtain ⟨k1, n1, m1, rfl, e, _⟩ := sl_int h1
    cases e
    obtain ⟨k2, n2, m2, rfl, e, _⟩ := sl_int h2
    cases e
    have e1 : ∀ d (k : IntKind) (n : Int), (Instr.checkKey em (d + 1) 3 (.int k n)).run Tryz.prog w = .ok () w := by
      intro d
      intros
      unfold Instr.checkKey
      simp only [Sem.run_bind, ue, Result.andThen_ok, Sem.run_pure]
    have key : ∀ d, (Instr.checkKey em (d + 2) 54 (.agg #[.int k0 n0, .int k1 n1, .int k2 n2])).run Tryz.prog w = .ok () w := by
      intro d
      unfold Instr.checkKey
      simp only [Sem.run_bind, ut, Result.andThen_ok]
      simp [List.range', List.forIn_cons, se, part, ae, e1]
    exact key 9998

theorem flat222 : FlatQ Tryz.prog 222 [.int, .int] := by
  have ut := Tryz.runUnderlying222
  have se := Tryz.sizeOf3
  have ae := Tryz.isAgg3
  have ue := Tryz.runUnderlying3
  constructor
  · intro xs ys b h w
    obtain ⟨x0, xs1, y0, ys1, b0, c0, rfl, rfl, h0, g0, rfl⟩ := sc_cons h
    obtain ⟨x1, xs2, y1, ys2, b1, c1, rfl, rfl, h1, g1, rfl⟩ := sc_cons g0
    obtain ⟨rfl, rfl, rfl⟩ := sc_nil g1
    obtain ⟨k0, n0, m0, rfl, rfl, rfl⟩ := sl_int h0
    obtain ⟨k1, n1, m1, rfl, rfl, rfl⟩ := sl_int h1
    clear h h0 h1 g0 g1
    constructor
    · intro op x y
      have hg := Tryz.eqGuardType222
      cases op <;> simp [eqGuard, hg]
    · obtain ⟨d, hd⟩ : ∃ d, Op.maxDepth = d + 2 := ⟨_, rfl⟩
      unfold Op.equal
      rw [hd]
      have q : ∀ d (k : IntKind) (a c : Int), (Op.equalIn (d + 1) 3 (.int k a) (.int k c)).run Tryz.prog w = .ok (a == c) w := by
        intro d
        intros
        unfold Op.equalIn
        simp only [Sem.run_bind, ue, Result.andThen_ok, if_true, Sem.run_pure]
      unfold Op.equalIn
      simp only [Sem.run_bind, ut, Result.andThen_ok, se]
      simp [List.range', List.forIn_cons, part, ae, se, q]
      by_cases e0 : n0 = m0 <;> by_cases e1 : n1 = m1 <;> (try simp [e0, e1, q])
  · intro xs b h w em
    obtain ⟨x0, xs1, y0, ys1, b0, c0, rfl, e0, h0, g0, rfl⟩ := sc_cons h
    cases e0
    obtain ⟨x1, xs2, y1, ys2, b1, c1, rfl, e1, h1, g1, rfl⟩ := sc_cons g0
    cases e1
    obtain ⟨rfl, e2, rfl⟩ := sc_nil g1
    obtain ⟨k0, n0, m0, rfl, e, _⟩ := sl_int h0
    cases e
    obtain ⟨k1, n1, m1, rfl, e, _⟩ := sl_int h1
    cases e
    have e1 : ∀ d (k : IntKind) (n : Int), (Instr.checkKey em (d + 1) 3 (.int k n)).run Tryz.prog w = .ok () w := by
      intro d
      intros
      unfold Instr.checkKey
      simp only [Sem.run_bind, ue, Result.andThen_ok, Sem.run_pure]
    have key : ∀ d, (Instr.checkKey em (d + 2) 222 (.agg #[.int k0 n0, .int k1 n1])).run Tryz.prog w = .ok () w := by
      intro d
      unfold Instr.checkKey
      simp only [Sem.run_bind, ut, Result.andThen_ok]
      simp [List.range', List.forIn_cons, se, part, ae, e1]
    exact key 9998

theorem flat61 : FlatQ Tryz.prog 61 [.int, .int, .int, .int] := by
  have ut := Tryz.runUnderlying61
  have se := Tryz.sizeOf3
  have ae := Tryz.isAgg3
  have ue := Tryz.runUnderlying3
  constructor
  · intro xs ys b h w
    obtain ⟨x0, xs1, y0, ys1, b0, c0, rfl, rfl, h0, g0, rfl⟩ := sc_cons h
    obtain ⟨x1, xs2, y1, ys2, b1, c1, rfl, rfl, h1, g1, rfl⟩ := sc_cons g0
    obtain ⟨x2, xs3, y2, ys3, b2, c2, rfl, rfl, h2, g2, rfl⟩ := sc_cons g1
    obtain ⟨x3, xs4, y3, ys4, b3, c3, rfl, rfl, h3, g3, rfl⟩ := sc_cons g2
    obtain ⟨rfl, rfl, rfl⟩ := sc_nil g3
    obtain ⟨k0, n0, m0, rfl, rfl, rfl⟩ := sl_int h0
    obtain ⟨k1, n1, m1, rfl, rfl, rfl⟩ := sl_int h1
    obtain ⟨k2, n2, m2, rfl, rfl, rfl⟩ := sl_int h2
    obtain ⟨k3, n3, m3, rfl, rfl, rfl⟩ := sl_int h3
    clear h h0 h1 h2 h3 g0 g1 g2 g3
    constructor
    · intro op x y
      have hg := Tryz.eqGuardType61
      cases op <;> simp [eqGuard, hg]
    · obtain ⟨d, hd⟩ : ∃ d, Op.maxDepth = d + 2 := ⟨_, rfl⟩
      unfold Op.equal
      rw [hd]
      have q : ∀ d (k : IntKind) (a c : Int), (Op.equalIn (d + 1) 3 (.int k a) (.int k c)).run Tryz.prog w = .ok (a == c) w := by
        intro d
        intros
        unfold Op.equalIn
        simp only [Sem.run_bind, ue, Result.andThen_ok, if_true, Sem.run_pure]
      unfold Op.equalIn
      simp only [Sem.run_bind, ut, Result.andThen_ok, se]
      simp [List.range', List.forIn_cons, part, ae, se, q]
      by_cases e0 : n0 = m0 <;> by_cases e1 : n1 = m1 <;> by_cases e2 : n2 = m2 <;> by_cases e3 : n3 = m3 <;> (try simp [e0, e1, e2, e3, q])
  · intro xs b h w em
    obtain ⟨x0, xs1, y0, ys1, b0, c0, rfl, e0, h0, g0, rfl⟩ := sc_cons h
    cases e0
    obtain ⟨x1, xs2, y1, ys2, b1, c1, rfl, e1, h1, g1, rfl⟩ := sc_cons g0
    cases e1
    obtain ⟨x2, xs3, y2, ys3, b2, c2, rfl, e2, h2, g2, rfl⟩ := sc_cons g1
    cases e2
    obtain ⟨x3, xs4, y3, ys4, b3, c3, rfl, e3, h3, g3, rfl⟩ := sc_cons g2
    cases e3
    obtain ⟨rfl, e4, rfl⟩ := sc_nil g3
    obtain ⟨k0, n0, m0, rfl, e, _⟩ := sl_int h0
    cases e
    obtain ⟨k1, n1, m1, rfl, e, _⟩ := sl_int h1
    cases e
    obtain ⟨k2, n2, m2, rfl, e, _⟩ := sl_int h2
    cases e
    obtain ⟨k3, n3, m3, rfl, e, _⟩ := sl_int h3
    cases e
    have e1 : ∀ d (k : IntKind) (n : Int), (Instr.checkKey em (d + 1) 3 (.int k n)).run Tryz.prog w = .ok () w := by
      intro d
      intros
      unfold Instr.checkKey
      simp only [Sem.run_bind, ue, Result.andThen_ok, Sem.run_pure]
    have key : ∀ d, (Instr.checkKey em (d + 2) 61 (.agg #[.int k0 n0, .int k1 n1, .int k2 n2, .int k3 n3])).run Tryz.prog w = .ok () w := by
      intro d
      unfold Instr.checkKey
      simp only [Sem.run_bind, ut, Result.andThen_ok]
      simp [List.range', List.forIn_cons, se, part, ae, e1]
    exact key 9998

theorem flat39 : FlatQ Tryz.prog 39 [.str, .str, .str] := by
  have ut := Tryz.runUnderlying39
  have se := Tryz.sizeOf35
  have ae := Tryz.isAgg35
  have ue := Tryz.runUnderlying35
  constructor
  · intro xs ys b h w
    obtain ⟨x0, xs1, y0, ys1, b0, c0, rfl, rfl, h0, g0, rfl⟩ := sc_cons h
    obtain ⟨x1, xs2, y1, ys2, b1, c1, rfl, rfl, h1, g1, rfl⟩ := sc_cons g0
    obtain ⟨x2, xs3, y2, ys3, b2, c2, rfl, rfl, h2, g2, rfl⟩ := sc_cons g1
    obtain ⟨rfl, rfl, rfl⟩ := sc_nil g2
    obtain ⟨n0, m0, rfl, rfl, rfl⟩ := sl_str h0
    obtain ⟨n1, m1, rfl, rfl, rfl⟩ := sl_str h1
    obtain ⟨n2, m2, rfl, rfl, rfl⟩ := sl_str h2
    clear h h0 h1 h2 g0 g1 g2
    constructor
    · intro op x y
      have hg := Tryz.eqGuardType39
      cases op <;> simp [eqGuard, hg]
    · obtain ⟨d, hd⟩ : ∃ d, Op.maxDepth = d + 2 := ⟨_, rfl⟩
      unfold Op.equal
      rw [hd]
      have q : ∀ d (a c : ByteArray), (Op.equalIn (d + 1) 35 (.string a) (.string c)).run Tryz.prog w = .ok (a == c) w := by
        intro d
        intros
        unfold Op.equalIn
        simp only [Sem.run_bind, ue, Result.andThen_ok, if_true, Sem.run_pure]
      unfold Op.equalIn
      simp only [Sem.run_bind, ut, Result.andThen_ok, se]
      simp [List.range', List.forIn_cons, part, ae, se, q]
      cases e0 : (n0 == m0) <;> cases e1 : (n1 == m1) <;> cases e2 : (n2 == m2) <;> (try simp [e0, e1, e2, q])
  · intro xs b h w em
    obtain ⟨x0, xs1, y0, ys1, b0, c0, rfl, e0, h0, g0, rfl⟩ := sc_cons h
    cases e0
    obtain ⟨x1, xs2, y1, ys2, b1, c1, rfl, e1, h1, g1, rfl⟩ := sc_cons g0
    cases e1
    obtain ⟨x2, xs3, y2, ys3, b2, c2, rfl, e2, h2, g2, rfl⟩ := sc_cons g1
    cases e2
    obtain ⟨rfl, e3, rfl⟩ := sc_nil g2
    obtain ⟨n0, m0, rfl, e, _⟩ := sl_str h0
    cases e
    obtain ⟨n1, m1, rfl, e, _⟩ := sl_str h1
    cases e
    obtain ⟨n2, m2, rfl, e, _⟩ := sl_str h2
    cases e
    have e1 : ∀ d (n : ByteArray), (Instr.checkKey em (d + 1) 35 (.string n)).run Tryz.prog w = .ok () w := by
      intro d
      intros
      unfold Instr.checkKey
      simp only [Sem.run_bind, ue, Result.andThen_ok, Sem.run_pure]
    have key : ∀ d, (Instr.checkKey em (d + 2) 39 (.agg #[.string n0, .string n1, .string n2])).run Tryz.prog w = .ok () w := by
      intro d
      unfold Instr.checkKey
      simp only [Sem.run_bind, ut, Result.andThen_ok]
      simp [List.range', List.forIn_cons, se, part, ae, e1]
    exact key 9998

theorem flat45 : FlatQ Tryz.prog 45 [.int, .int, .int] := by
  have ut := Tryz.runUnderlying45
  have se := Tryz.sizeOf3
  have ae := Tryz.isAgg3
  have ue := Tryz.runUnderlying3
  constructor
  · intro xs ys b h w
    obtain ⟨x0, xs1, y0, ys1, b0, c0, rfl, rfl, h0, g0, rfl⟩ := sc_cons h
    obtain ⟨x1, xs2, y1, ys2, b1, c1, rfl, rfl, h1, g1, rfl⟩ := sc_cons g0
    obtain ⟨x2, xs3, y2, ys3, b2, c2, rfl, rfl, h2, g2, rfl⟩ := sc_cons g1
    obtain ⟨rfl, rfl, rfl⟩ := sc_nil g2
    obtain ⟨k0, n0, m0, rfl, rfl, rfl⟩ := sl_int h0
    obtain ⟨k1, n1, m1, rfl, rfl, rfl⟩ := sl_int h1
    obtain ⟨k2, n2, m2, rfl, rfl, rfl⟩ := sl_int h2
    clear h h0 h1 h2 g0 g1 g2
    constructor
    · intro op x y
      have hg := Tryz.eqGuardType45
      cases op <;> simp [eqGuard, hg]
    · obtain ⟨d, hd⟩ : ∃ d, Op.maxDepth = d + 2 := ⟨_, rfl⟩
      unfold Op.equal
      rw [hd]
      have hs := Tryz.stoodInHeld45
      have q : ∀ d (k : IntKind) (a c : Int), (Op.equalIn (d + 1) 3 (.int k a) (.int k c)).run Tryz.prog w = .ok (a == c) w := by
        intro d
        intros
        unfold Op.equalIn
        simp only [Sem.run_bind, ue, Result.andThen_ok, if_true, Sem.run_pure]
      have hs := Tryz.stoodInHeld45
      unfold Op.equalIn
      simp only [Sem.run_bind, ut, Result.andThen_ok, run_program, hs, Bool.false_eq_true, if_false]
      simp [part, ae, q]
      by_cases e0 : n0 = m0 <;> by_cases e1 : n1 = m1 <;> by_cases e2 : n2 = m2 <;> (try simp [e0, e1, e2, q])
  · intro xs b h w em
    obtain ⟨x0, xs1, y0, ys1, b0, c0, rfl, e0, h0, g0, rfl⟩ := sc_cons h
    cases e0
    obtain ⟨x1, xs2, y1, ys2, b1, c1, rfl, e1, h1, g1, rfl⟩ := sc_cons g0
    cases e1
    obtain ⟨x2, xs3, y2, ys3, b2, c2, rfl, e2, h2, g2, rfl⟩ := sc_cons g1
    cases e2
    obtain ⟨rfl, e3, rfl⟩ := sc_nil g2
    obtain ⟨k0, n0, m0, rfl, e, _⟩ := sl_int h0
    cases e
    obtain ⟨k1, n1, m1, rfl, e, _⟩ := sl_int h1
    cases e
    obtain ⟨k2, n2, m2, rfl, e, _⟩ := sl_int h2
    cases e
    have e1 : ∀ d (k : IntKind) (n : Int), (Instr.checkKey em (d + 1) 3 (.int k n)).run Tryz.prog w = .ok () w := by
      intro d
      intros
      unfold Instr.checkKey
      simp only [Sem.run_bind, ue, Result.andThen_ok, Sem.run_pure]
    have key : ∀ d, (Instr.checkKey em (d + 2) 45 (.agg #[.int k0 n0, .int k1 n1, .int k2 n2])).run Tryz.prog w = .ok () w := by
      intro d
      unfold Instr.checkKey
      simp only [Sem.run_bind, ut, Result.andThen_ok]
      simp [List.range', List.forIn_cons, se, part, ae, e1]
    exact key 9998

noncomputable def flats : Tr (List LK) := .node 54 (.node 45 (.leaf 39 [.str, .str, .str]) (.leaf 45 [.int, .int, .int])) (.node 61 (.leaf 54 [.int, .int, .int]) (.node 222 (.leaf 61 [.int, .int, .int, .int]) (.leaf 222 [.int, .int])))
theorem flats_ok : flats.All (FlatQ Tryz.prog) := ⟨⟨flat39, flat45⟩, ⟨flat54, ⟨flat61, flat222⟩⟩⟩
end Go.Proofs.YtockpchpaemfgaaGreatDoor.K
