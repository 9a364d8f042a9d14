/- What the evaluator says of one operation is what the model's operation does: the ones that touch no memory. -/
import Derived.Test.YtockpchpaemfgaaGreatDoorAbArith
import Derived.Laws.Strings
set_option linter.all false
namespace Go.Ab

/-- What is known of the program. -/
structure EnvOK (P : Program) (E : Env) : Prop where
  info : ∀ t ti, E.ty t = some ti → ∃ i, P.info? t = some i ∧ i.size = ti.size ∧ i.bytes = ti.bytes ∧
    i.zero = some (if ti.agg then .agg ti.zero.toArray else ti.zero.headD undef) ∧ (ti.agg = false → ti.zero.length = 1 ∧ ti.zero.all oneCell = true)
  za : ∀ t ti, E.ty t = some ti → ti.za = ti.zero.map leaf
  desc : ∀ t ti, E.ty t = some ti → P.underlying t = some ti.desc
  agg : ∀ t ti, E.ty t = some ti → ti.agg = (match ti.desc with | .struct _ | .array _ _ => true | _ => false)
  places : ∀ t ti fields, E.ty t = some ti → ti.desc = .struct fields → ∀ w, ((fields.mapM fun f => do pure (f.offset, ← sizeOf f.type) : Sem (Array (Nat × Nat)))).run P w = .ok ti.places.toArray w
  fn : ∀ f fn, E.fn f = some fn → P.funcs[f]? = some fn ∧ fn.name ≠ "runtime.NumGoroutine" ∧ ∀ c, fn.body = some c → Code.drawOK c = true
  mixed : P.follows .mixedOrders = true
  flat : ∀ t ks, E.flat t = some ks → ∀ (xs ys : List Value) b, sameCells ks (xs.map leaf) (ys.map leaf) = some b → ∀ w,
    (∀ op x y, (eqGuard op t x y (.agg xs.toArray) (.agg ys.toArray)).run P w = .ok () w) ∧ (Op.equal t (.agg xs.toArray) (.agg ys.toArray)).run P w = .ok b w
  flatKey : ∀ t ks, E.flatKey t = true → E.flat t = some ks → ∀ (xs : List Value) b, sameCells ks (xs.map leaf) (xs.map leaf) = some b → ∀ w em,
    (Instr.checkKey em 10000 t (.agg xs.toArray)).run P w = .ok () w

def evalM (tm : List Value) : Operand → Value
  | .tmp t => (tm[t]?).getD undef
  | .const v => v
  | .global g => .pointer (some ⟨g, 0, none⟩)
  | .func f => .func (.func f) #[] #[]

theorem evalM_eq (tm : List Value) (ds : List Deferred) : Act.eval ⟨tm.toArray, ds⟩ = evalM tm := by
  funext x; cases x <;> simp [Act.eval, evalM]

section
variable {P : Program} {E : Env} (ok : EnvOK P E) {w : World}
include ok
theorem run_underlying' {t : TypeId} {ti : TI} (h : E.ty t = some ti) : (underlying t).run P w = .ok ti.desc w := by
  unfold underlying; simp [Sem.run_bind, ok.desc t ti h]
theorem run_sizeOf' {t : TypeId} {ti : TI} (h : E.ty t = some ti) : (sizeOf t).run P w = .ok ti.size w := by
  obtain ⟨i, h1, h2, _⟩ := ok.info t ti h
  unfold sizeOf typeInfo; simp [Sem.run_bind, h1, h2]
theorem run_bytes' {t : TypeId} {ti : TI} (h : E.ty t = some ti) : ∃ i : TypeInfo, (typeInfo t).run P w = .ok i w ∧ i.bytes = ti.bytes := by
  obtain ⟨i, h1, _, h2, _⟩ := ok.info t ti h
  exact ⟨i, by unfold typeInfo; simp [Sem.run_bind, h1], h2⟩
theorem run_isAgg' {t : TypeId} {ti : TI} (h : E.ty t = some ti) : (isAgg t).run P w = .ok ti.agg w := by
  unfold isAgg
  simp only [Sem.run_bind, run_underlying' ok h, Result.andThen_ok]
  rw [ok.agg t ti h]
  cases ti.desc <;> rfl
theorem run_zeroValue' {t : TypeId} {ti : TI} (h : E.ty t = some ti) : ∃ z : Value, (zeroValue t).run P w = .ok z w ∧ z.cells.toList = ti.zero ∧ z = if ti.agg then .agg ti.zero.toArray else ti.zero.headD undef := by
  obtain ⟨i, h1, _, _, h2, h3⟩ := ok.info t ti h
  refine ⟨if ti.agg then .agg ti.zero.toArray else ti.zero.headD undef, by unfold zeroValue typeInfo; simp [Sem.run_bind, h1, h2], ?_, rfl⟩
  cases hb : ti.agg with
  | true => simp [Value.cells]
  | false =>
    obtain ⟨h4, h5⟩ := h3 hb
    cases hz : ti.zero with
    | nil => rw [hz] at h4; simp at h4
    | cons v vs =>
      rw [hz] at h4 h5
      have : vs = [] := by simpa using h4
      subst this
      simp only [List.all_cons, List.all_nil, Bool.and_true] at h5
      simp only [Bool.false_eq_true, if_false, List.headD_cons]
      cases v <;> simp_all [Value.cells, oneCell]
end

section
variable {I : Imm} {ι : Inj} {w : World}

theorem vr_leaf {v x : Value} (h : VR I ι w (.d (.leaf v)) x) : x = v := by cases h with | d h => cases h; rfl
theorem vr_leaf' {v x : Value} (h : VR I ι w (leaf v) x) : x = v := vr_leaf h
theorem VR.leaf (v : Value) : VR I ι w (leaf v) v := .d (.leaf v)
theorem VR.ofConst (v : Value) : VR I ι w (ofConst v) v := by
  cases v <;> try exact VR.leaf _
  rename_i cs
  have := VR.agg' (VRs.leafs (I := I) (ι := ι) (w := w) cs.toList)
  simpa [Ab.ofConst] using this

theorem vr_agg {cs : List AV} {x : Value} (h : VR I ι w (.agg cs) x) : ∃ vs, x = .agg vs.toArray ∧ VRs I ι w cs vs := by
  cases h with | agg hl hv => exact ⟨_, rfl, ⟨hl, hv⟩⟩
theorem vr_tup {cs : List AV} {x : Value} (h : VR I ι w (.tup cs) x) : ∃ vs, x = .tuple vs.toArray ∧ VRs I ι w cs vs := by
  cases h with | tup hl hv => exact ⟨_, rfl, ⟨hl, hv⟩⟩

/-- A cell of the evaluator's is a cell of the model's. -/
theorem vr_oneCell {x : AV} {v : Value} (h : VR I ι w x v) (hx : x.isCell = true) : oneCell v = true := by
  cases h <;> try rfl
  · rename_i h; cases h <;> first | rfl | exact hx
  · exact Bool.noConfusion hx
  · exact Bool.noConfusion hx

theorem vr_cells {x : AV} {v : Value} (h : VR I ι w x v) (hx : x.cells.all AV.isCell = true) : VRs I ι w x.cells v.cells.toList := by
  have one : ∀ {y : AV} {u : Value}, VR I ι w y u → y.isCell = true → y.cells = [y] → VRs I ι w y.cells u.cells.toList := by
    intro y u hy hc he
    rw [he]
    have h1 := vr_oneCell hy hc
    have : u.cells.toList = [u] := by cases u <;> first | rfl | simp [oneCell] at h1
    rw [this]; exact VRs.nil.cons hy
  cases x with
  | agg cs =>
    obtain ⟨vs, rfl, hs⟩ := vr_agg h
    simpa [AV.cells, Value.cells] using hs
  | d y => exact one h (by simpa [AV.cells] using hx) rfl
  | ptr b o => exact one h rfl rfl
  | sl b o l e c => exact one h rfl rfl
  | fn f c => exact one h rfl rfl
  | yield b => exact one h rfl rfl
  | map b => exact one h rfl rfl
  | tup vs => simp [AV.cells, AV.isCell] at hx

theorem vrs_oneCell {xs : List AV} {vs : List Value} (h : VRs I ι w xs vs) (hx : xs.all AV.isCell = true) : vs.all oneCell = true := by
  induction xs generalizing vs with
  | nil => rw [h.unnil]; rfl
  | cons x xs ih =>
    obtain ⟨v, vs', rfl, h1, h2⟩ := h.uncons
    simp only [List.all_cons, Bool.and_eq_true] at hx ⊢
    exact ⟨vr_oneCell h1 hx.1, ih h2 hx.2⟩

theorem vrs_ofD {ds : List D} {vs : List Value} (hl : vs.length = ds.length) (hv : ∀ (i : Nat) x v, ds[i]? = some x → vs[i]? = some v → DR I w x v) : VRs I ι w (ds.map .d) vs :=
  ⟨by simp [hl], fun i x v h1 h2 => by
    simp only [List.getElem?_map] at h1
    cases hd : ds[i]? with
    | none => rw [hd] at h1; cases h1
    | some y => rw [hd] at h1; cases h1; exact .d (hv i y v hd h2)⟩

theorem allD_spec {xs : List AV} {ds : List D} (h : allD xs = some ds) : xs = ds.map .d := by
  induction xs generalizing ds with
  | nil => simp [allD] at h; subst h; rfl
  | cons x xs ih =>
    cases x <;> simp [allD] at h
    cases hd : allD xs with
    | none => rw [hd] at h; cases h
    | some es => rw [hd] at h; cases h; rw [ih hd]; rfl

theorem VR.mkFn {f : FuncId} {caps : List AV} {vs : List Value} (h : VRs I ι w caps vs) : VR I ι w (mkFn f caps) (.func (.func f) #[] vs.toArray) := by
  unfold Ab.mkFn
  cases hd : allD caps with
  | none => exact .fn h.len h.at_
  | some ds =>
    have hc := allD_spec hd
    subst hc
    refine .d (.fn f ds vs (by simpa using h.len) fun i x v h1 h2 => ?_)
    have := h.at_ i (.d x) v (by simp [h1]) h2
    cases this with | d h => exact h

theorem asInt_spec {x : AV} {n : Int} {v : Value} (h : asInt x = some n) (hv : VR I ι w x v) : ∃ k, v = .int k n := by
  unfold asInt at h
  split at h <;> simp at h
  subst h; exact ⟨_, vr_leaf hv⟩
theorem asBool_spec {x : AV} {b : Bool} {v : Value} (h : asBool x = some b) (hv : VR I ι w x v) : v = .bool b := by
  unfold asBool at h
  split at h <;> simp at h
  subst h; exact vr_leaf hv
theorem run_asIntOf {P : Program} {k : IntKind} {n : Int} : (asIntOf (.int k n)).run P w = .ok (k, n) w := rfl
end

/-- The operands, side by side. -/
def Same (I : Imm) (ι : Inj) (w : World) (ρ : Operand → AV) (ρm : Operand → Value) : Prop := ∀ x, VR I ι w (ρ x) (ρm x)

theorem same_eval {I : Imm} {ι : Inj} {w : World} {t : Tm} {tm : List Value} (h : TR I ι w t tm) : Same I ι w (evalO t) (evalM tm) := by
  intro x
  cases x with
  | tmp i => exact h.get i
  | const v => exact VR.ofConst v
  | global g => exact VR.leaf _
  | func f =>
    have : VR I ι w (.d (.fn f [])) (.func (.func f) #[] #[]) := .d (.fn f [] [] rfl (by simp))
    exact this

theorem same_map {I : Imm} {ι : Inj} {w : World} {ρ : Operand → AV} {ρm : Operand → Value} (h : Same I ι w ρ ρm) (xs : List Operand) : VRs I ι w (xs.map ρ) (xs.map ρm) := by
  induction xs with
  | nil => exact VRs.nil
  | cons x xs ih => exact ih.cons (h x)

-- ---------------------------------------------------------------- arithmetic
theorem intBin_run {P : Program} {w : World} {op : BinOp} {k : IntKind} {x y : Int} {v : Value} (h : intBin op k x y = some v) (t : TypeId) :
    (binOp op t (.int k x) (.int k y)).run P w = .ok v w := by
  rw [intBin_eq] at h
  cases op <;> simp only [intBinS, Option.some.injEq, reduceCtorEq] at h
  case quo =>
    split at h
    · cases h
    · rename_i h0; cases h; simp [binOp, Op.intDiv, h0]
  case rem =>
    split at h
    · cases h
    · rename_i h0; cases h; simp [binOp, Op.intDiv, h0]
  all_goals (subst h; simp [binOp, Op.intArith, Op.intBits, Op.intCmp])

theorem toList_data (s : ByteArray) : s.toList = s.data.toList := ByteArray.toList_eq s
theorem strEq_eq (x y : ByteArray) : strEq x y = (x.toList == y.toList) := by
  unfold strEq; rw [bytes_eq, toList_data, toList_data]
theorem strLen_eq (s : ByteArray) : strLen s = s.size := rfl
theorem str_append (x y : ByteArray) : (⟨(x.data.toList ++ y.data.toList).toArray⟩ : ByteArray) = x ++ y := by
  apply ByteArray.ext
  apply Array.ext'
  simp
theorem strBin_run {P : Program} {w : World} {op : BinOp} {x y : ByteArray} {v : Value} (h : strBin op x y = some v) (t : TypeId) :
    (binOp op t (.string x) (.string y)).run P w = .ok v w := by
  cases op <;> simp only [strBin, Option.some.injEq, reduceCtorEq] at h
  case add =>
    split at h
    · cases h
    · rename_i h0; cases h; rw [str_append]; simp only [binOp, Op.stringOp, h0, if_false]; rfl
  all_goals (subst h; first | rfl | (rw [strEq_eq]; rfl))

theorem sameCells_leafs {ks : List LK} {xs ys : List AV} {b : Bool} (h : sameCells ks xs ys = some b) : ∃ us vs : List Value, xs = us.map leaf ∧ ys = vs.map leaf := by
  induction ks generalizing xs ys b with
  | nil =>
    unfold sameCells at h
    split at h
    · exact ⟨[], [], rfl, rfl⟩
    · simp_all
    · cases h
  | cons k ks ih =>
    unfold sameCells at h
    split at h
    · simp_all
    · rename_i k' ks' a as_ b' bs heq
      simp only [List.cons.injEq] at heq
      obtain ⟨rfl, rfl⟩ := heq
      split at h
      · rename_i h2; obtain ⟨us, vs, e1, e2⟩ := ih h2
        exact ⟨a :: us, b' :: vs, by rw [e1]; rfl, by rw [e2]; rfl⟩
      · cases h
    · cases h

theorem vrs_leafs {I : Imm} {ι : Inj} {w : World} {us vs : List Value} (h : VRs I ι w (us.map leaf) vs) : vs = us := by
  induction us generalizing vs with
  | nil => exact h.unnil
  | cons u us ih =>
    obtain ⟨v, vs', rfl, h1, h2⟩ := h.uncons
    rw [ih h2, vr_leaf h1]

section
variable {P : Program} {E : Env} (ok : EnvOK P E) {I : Imm} {ι : Inj} {w : World}
include ok

omit ok in
theorem nilType_iface {t : TypeId} {lit : Bool} (h : nilType E t lit true = true) : ∃ ti ms, E.ty t = some ti ∧ ti.desc = .interface ms ∧ lit = true := by
  unfold nilType at h
  split at h
  · rename_i ti hty
    split at h
    · rename_i hd _; exact ⟨ti, _, hty, hd, h⟩
    · simp_all
    · cases h
  · cases h
omit ok in
theorem nilType_slice {t : TypeId} {lit : Bool} (h : nilType E t lit false = true) : ∃ ti el, E.ty t = some ti ∧ ti.desc = .slice el := by
  unfold nilType at h
  split at h
  · rename_i ti hty
    split at h
    · simp_all
    · rename_i hd _; exact ⟨ti, _, hty, hd⟩
    · cases h
  · cases h
omit ok in
theorem eqA_run {op : BinOp} {t : TypeId} {b : Bool} {z : AV} (h : eqA op b = some z) {xv yv : Value} (ox oy : Operand)
    (hg : (op = .eql ∨ op = .neq) → (eqGuard op t ox oy xv yv).run P w = .ok () w) (he : (Op.equal t xv yv).run P w = .ok b w)
    (hb1 : binOp .eql t xv yv = (do pure (.bool (← Op.equal t xv yv)))) (hb2 : binOp .neq t xv yv = (do pure (.bool (!(← Op.equal t xv yv))))) :
    ∃ zv, ((do eqGuard op t ox oy xv yv; binOp op t xv yv : Sem Value)).run P w = .ok zv w ∧ VR I ι w z zv := by
  unfold eqA at h
  split at h
  · cases h
    exact ⟨_, by simp only [Sem.run_bind, hg (.inl rfl), Result.andThen_ok, hb1, he]; rfl, VR.leaf _⟩
  · cases h
    exact ⟨_, by simp only [Sem.run_bind, hg (.inr rfl), Result.andThen_ok, hb2, he]; rfl, VR.leaf _⟩
  · cases h

theorem binA_run {op : BinOp} {t : TypeId} {x y z : AV} {xv yv : Value} {ox oy : Operand} (h : binA E op t (isLit ox || isLit oy) x y = some z) (hx : VR I ι w x xv) (hy : VR I ι w y yv) :
    ∃ zv, ((do eqGuard op t ox oy xv yv; binOp op t xv yv : Sem Value)).run P w = .ok zv w ∧ VR I ι w z zv := by
  unfold binA at h
  split at h
  · rename_i k a k' b
    have e1 := vr_leaf hx; have e2 := vr_leaf hy; subst e1 e2
    have hg : (eqGuard op t ox oy (.int k a) (.int k' b)).run P w = .ok () w := by cases op <;> rfl
    have fin : ∀ zv, (binOp op t (.int k a) (.int k' b)).run P w = .ok zv w → z = leaf zv →
        ∃ zv, ((do eqGuard op t ox oy (.int k a) (.int k' b); binOp op t (.int k a) (.int k' b) : Sem Value)).run P w = .ok zv w ∧ VR I ι w z zv := by
      intro zv h1 h2; subst h2
      exact ⟨zv, by simp only [Sem.run_bind, hg, Result.andThen_ok, h1], VR.leaf _⟩
    split at h
    · split at h
      · rename_i n
        cases h
        rw [shlF_eq] at *
        exact fin _ (by simp [binOp, Op.shift]; intro hneg; omega) rfl
      · cases h
    · split at h
      · rename_i n
        cases h
        rw [shrF_eq] at *
        exact fin _ (by simp [binOp, Op.shift]; intro hneg; omega) rfl
      · cases h
    · cases hk : Nat.beq (kindN k) (kindN k') with
      | false => rw [hk] at h; cases h
      | true =>
        rw [hk] at h
        have := kind_eq hk; subst this
        dsimp only [cond_true] at h
        cases hi : intBin op k a b with
        | none => rw [hi] at h; cases h
        | some v => rw [hi] at h; cases h; exact fin _ (intBin_run hi t) rfl
  · rename_i a b
    have e1 := vr_leaf hx; have e2 := vr_leaf hy; subst e1 e2
    have hg : (eqGuard op t ox oy (.string a) (.string b)).run P w = .ok () w := by cases op <;> rfl
    cases hi : strBin op a b with
    | none => rw [hi] at h; cases h
    | some v => rw [hi] at h; cases h; exact ⟨v, by simp only [Sem.run_bind, hg, Result.andThen_ok, strBin_run hi t], VR.leaf _⟩
  · rename_i a b
    have e1 := vr_leaf hx; have e2 := vr_leaf hy; subst e1 e2
    split at h
    · rename_i ti hty
      split at h
      · rename_i hdesc
        refine eqA_run h ox oy (fun ho => by rcases ho with rfl | rfl <;> rfl) ?_ rfl rfl
        unfold Op.equal Op.maxDepth Op.equalIn
        simp only [Sem.run_bind, run_underlying' ok hty, Result.andThen_ok, hdesc]; rfl
      · cases h
    · cases h
  · rename_i xs ys
    obtain ⟨xvs, rfl, hxs⟩ := vr_agg hx
    obtain ⟨yvs, rfl, hys⟩ := vr_agg hy
    split at h
    · rename_i ks hf
      split at h
      · rename_i b hb
        obtain ⟨us, vs, rfl, rfl⟩ := sameCells_leafs hb
        rw [vrs_leafs hxs, vrs_leafs hys]
        have := ok.flat t ks hf us vs b hb w
        exact eqA_run h ox oy (fun _ => this.1 op ox oy) this.2 rfl rfl
      · cases h
    · cases h
  · have e1 := vr_leaf hx; have e2 := vr_leaf hy; subst e1 e2
    split at h
    · rename_i hn
      obtain ⟨ti, ms, hty, hd, hl⟩ := nilType_iface hn
      refine eqA_run h ox oy (fun ho => ?_) (by unfold Op.equal Op.maxDepth Op.equalIn; simp only [Sem.run_bind, run_underlying' ok hty, Result.andThen_ok, hd]; rfl) rfl rfl
      clear hn
      unfold eqGuard
      rcases ho with rfl | rfl <;> cases ox <;> cases oy <;> first | rfl | (simp [isLit] at hl)
    · cases h
  · have e1 := vr_leaf hx; have e2 := vr_leaf hy; subst e1 e2
    split at h
    · rename_i hn
      obtain ⟨ti, ms, hty, hd, hl⟩ := nilType_iface hn
      exact eqA_run h ox oy (fun ho => by rcases ho with rfl | rfl <;> rfl) (by unfold Op.equal Op.maxDepth Op.equalIn; simp only [Sem.run_bind, run_underlying' ok hty, Result.andThen_ok, hd]; rfl) rfl rfl
    · cases h
  · have e1 := vr_leaf hx; have e2 := vr_leaf hy; subst e1 e2
    split at h
    · rename_i hn
      obtain ⟨ti, el, hty, hd⟩ := nilType_slice hn
      exact eqA_run h ox oy (fun ho => by rcases ho with rfl | rfl <;> rfl) (by unfold Op.equal Op.maxDepth Op.equalIn; simp only [Sem.run_bind, run_underlying' ok hty, Result.andThen_ok, hd]; rfl) rfl rfl
    · cases h
  · have e2 := vr_leaf hy; subst e2
    split at h
    · rename_i hn
      obtain ⟨ti, el, hty, hd⟩ := nilType_slice hn
      cases hx with
      | d hx => cases hx with
        | lit len cells blk off c vs hc hl hw hv =>
          exact eqA_run h ox oy (fun ho => by rcases ho with rfl | rfl <;> rfl) (by unfold Op.equal Op.maxDepth Op.equalIn; simp only [Sem.run_bind, run_underlying' ok hty, Result.andThen_ok, hd]; rfl) rfl rfl
    · cases h
  · have e2 := vr_leaf hy; subst e2
    split at h
    · rename_i hn
      obtain ⟨ti, el, hty, hd⟩ := nilType_slice hn
      cases hx with
      | sl hb hc hk hbb he =>
        rcases hbb with h0 | hbb
        · omega
        · subst hbb
          exact eqA_run h ox oy (fun ho => by rcases ho with rfl | rfl <;> rfl) (by unfold Op.equal Op.maxDepth Op.equalIn; simp only [Sem.run_bind, run_underlying' ok hty, Result.andThen_ok, hd]; rfl) rfl rfl
    · cases h
  · cases h

omit ok in
theorem unA_run {op : UnOp} {x z : AV} {xv : Value} (h : unA op x = some z) (hx : VR I ι w x xv) : ∃ zv, (Op.unary op xv).run P w = .ok zv w ∧ VR I ι w z zv := by
  unfold unA at h
  split at h <;> simp only [Option.some.injEq, reduceCtorEq] at h
  all_goals
    subst h
    have e := vr_leaf hx; subst e
    exact ⟨_, by first | (simp [Op.unary, Op.intArith, Op.intBits]; done) | (rw [wrapF_eq]; simp [Op.unary, Op.intArith, Op.intBits]; rfl), VR.leaf _⟩

/-- A part of an aggregate. -/
theorem partA_run {t : TypeId} {cs : List AV} {vs : List Value} {off : Nat} {z : AV} (h : partA E t cs off = some z) (hs : VRs I ι w cs vs) :
    ∃ zv, (part t vs.toArray off).run P w = .ok zv w ∧ VR I ι w z zv := by
  unfold partA at h
  split at h
  · rename_i ti hty
    unfold part
    simp only [Sem.run_bind, run_isAgg' ok hty, Result.andThen_ok]
    cases hb : ti.agg with
    | true =>
      rw [hb] at h; simp only [if_true] at h ⊢
      split at h
      case h_2 => cases h
      rename_i l hl
      obtain ⟨_, rfl⟩ := cut_some hl
      cases h
      simp only [Sem.run_bind, run_sizeOf' ok hty, Result.andThen_ok, Sem.run_pure]
      refine ⟨_, rfl, ?_⟩
      have := VR.agg' ((hs.drop off).take ti.size)
      simpa [List.extract_eq_take_drop] using this
    | false =>
      rw [hb] at h; simp only [Bool.false_eq_true, if_false] at h ⊢
      rw [nth_eq] at h
      obtain ⟨v, h1, h2⟩ := hs.get h
      exact ⟨v, by simp [h1], h2⟩
  · cases h
end

end Go.Ab
