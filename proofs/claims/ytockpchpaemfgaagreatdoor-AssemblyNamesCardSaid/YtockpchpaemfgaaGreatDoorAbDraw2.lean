/- Every order of a region that draws. -/
import Derived.Test.YtockpchpaemfgaaGreatDoorAbDrawB
set_option linter.all false
namespace Go.Ab

theorem act_congr {E : Env} {r : Rec} {ρ ρ' : Operand → AV} (o : Oper) (h : ∀ x ∈ o.op.operands, ρ x = ρ' x) : act E r ρ o.op = act E r ρ' o.op := by
  obtain ⟨dst, op, type, pos, after, guard⟩ := o
  have lmap : ∀ xs : Array Operand, (∀ x ∈ xs, ρ x = ρ' x) → xs.toList.map ρ = xs.toList.map ρ' := fun xs hx => List.map_congr_left fun x hm => hx x (by simpa using hm)
  have pairs : ∀ ps : Array (Nat × Operand), (∀ x ∈ ps.map (·.2), ρ x = ρ' x) →
      (ps.toList.map fun (i, x) => (i, ρ x)) = (ps.toList.map fun (i, x) => (i, ρ' x)) := fun ps hp =>
    List.map_congr_left fun p hm => by
      obtain ⟨i, x⟩ := p
      simp only [hp x (Array.mem_map.2 ⟨(i, x), by simpa using hm, rfl⟩)]
  unfold act
  cases op <;> simp only [Op.operands] at h <;> dsimp only
  case build t ps => unfold buildA; rw [pairs ps fun x hx => h x (by simpa using hx)]
  case buildSlice t n ps => unfold buildSliceA; rw [pairs ps fun x hx => h x (by simpa using hx)]
  case makeFunc fn first captured =>
    cases fn <;> simp only [makeFuncA]
    rw [lmap captured fun x hx => h x (by simp [hx])]
  case call c =>
    have ha := lmap c.args fun x hx => h x (by simp [Call.operands, hx])
    unfold callOp
    cases hc : c.callee with
    | value f =>
      have hf : ρ f = ρ' f := h f (by simp [Call.operands, hc])
      cases f <;> simp only [hf, ha]
    | invoke x m => rfl
    | builtin b => simp only [ha]
  case slice t x lo hi mx => cases lo <;> cases hi <;> cases mx <;> simp_all
  case makeMap t rv => cases rv <;> rfl
  all_goals (first | rfl | (simp_all; done))

theorem get_put_ne {t : Tm} {d i : Nat} {v : AV} (h : d ≠ i) : Tm.get (T.set t d v) i = Tm.get t i := by
  unfold Tm.get; rw [T.get_set, if_neg h]

theorem eval_put {t : Tm} {dst : Option Tmp} {v : AV} {x : Operand} (h : ∀ d, dst = some d → x ≠ .tmp d) : evalO (put t dst v) x = evalO t x := by
  cases dst with
  | none => rfl
  | some d =>
    cases x with
    | tmp i =>
      have hne : d ≠ i := fun e => h d rfl (e ▸ rfl)
      exact get_put_ne hne
    | _ => rfl

theorem act_put {E : Env} {r : Rec} {ops : List Oper} (o : Oper) (t : Tm) (dst : Option Tmp) (v : AV) (h : ∀ d, dst = some d → d ∉ looks ops o) : act E r (evalO (put t dst v)) o.op = act E r (evalO t) o.op :=
  act_congr o fun x hx => eval_put fun d hd hxd => h d hd (by
    subst hxd
    unfold looks
    exact List.mem_append_left _ (List.mem_filterMap.2 ⟨.tmp d, by simpa using hx, rfl⟩))

theorem wantedA_put {ops : List Oper} (o : Oper) (t : Tm) (dst : Option Tmp) (v : AV) (h : ∀ d, dst = some d → d ∉ looks ops o) : wantedA ops (put t dst v) o = wantedA ops t o := by
  cases dst with
  | none => rfl
  | some d =>
    unfold wantedA
    cases hg : o.guard with
    | none => rfl
    | some gw =>
      obtain ⟨j, want⟩ := gw
      dsimp only
      rw [nth_eq]
      cases hp : ops[j]? with
      | none => rfl
      | some p =>
        dsimp only
        cases ht : p.dst with
        | none => rfl
        | some e =>
          have hne : d ≠ e := fun he => h d rfl (by subst he; simp [looks, hg, hp, ht])
          dsimp only [put]
          rw [get_put_ne hne]

theorem apartB_spec {ops : List Oper} {x y : Oper} (h : apartB ops x y = true) :
    (∀ d, x.dst = some d → d ∉ looks ops y) ∧ (∀ d, x.dst = some d → y.dst ≠ some d) ∧ (∀ d, y.dst = some d → d ∉ looks ops x) := by
  refine ⟨fun d hd => ?_, fun d hd => ?_, fun d hd => ?_⟩ <;> simp [apartB, hd] at h
  · exact h.1.1
  · exact h.1.2
  · exact h.2

theorem put_comm (t : Tm) {x y : Option Tmp} (u v : AV) (h : ∀ d, x = some d → y ≠ some d) : put (put t x u) y v = put (put t y v) x u := by
  cases x with
  | none => rfl
  | some d =>
    cases y with
    | none => rfl
    | some e =>
      have hne : d ≠ e := fun he => h d rfl (he ▸ rfl)
      simp only [put]
      exact T.set_comm _ _ _ hne

section
variable (E : Env) (r : Rec) (ops : List Oper) (base : Nat)

def evOpD (i : Nat) (o : Oper) (st : St) : Option (St × Option Log) :=
  match wantedA ops st.t o with
  | true => match act E r (evalO st.t) o.op with
    | some a => match a.exec (some (base + i)) st.H with
      | some (v, H) => some (⟨put st.t o.dst v, H⟩, some ⟨i, a, a.foot st.H⟩)
      | none => none
    | none => none
  | false => some (⟨put st.t o.dst undefA, st.H⟩, none)

def entry (a : Option Log) : List Log :=
  match a with
  | some a => [a]
  | none => []

def runD : List Nat → St → Option (St × List Log)
  | [], st => some (st, [])
  | i :: l, st => match ops[i]? with
    | none => none
    | some o => match evOpD E r ops base i o st with
      | some (st1, a) => match runD l st1 with
        | some (st2, log) => some (st2, entry a ++ log)
        | none => none
      | none => none

def Ordered (i j : Nat) : Prop := ∃ n, ordered ops n i j = true

def Fits (p q : Log) : Prop := Log.compat base p q = true ∨ Ordered ops p.i q.i

variable {E r ops base}

theorem runD_cons {i : Nat} {l : List Nat} {st R : St} {log : List Log} (h : runD E r ops base (i :: l) st = some (R, log)) :
    ∃ o st1 a log2, ops[i]? = some o ∧ evOpD E r ops base i o st = some (st1, a) ∧ runD E r ops base l st1 = some (R, log2) ∧ log = entry a ++ log2 := by
  unfold runD at h
  split at h
  · cases h
  · rename_i o ho
    split at h
    · rename_i st1 a ha
      split at h
      · rename_i st2 log2 hl; cases h; exact ⟨o, st1, a, log2, ho, ha, hl, rfl⟩
      · cases h
    · cases h

theorem runD_mk {i : Nat} {l : List Nat} {st st1 R : St} {o : Oper} {a : Option Log} {log2 : List Log} (ho : ops[i]? = some o) (h1 : evOpD E r ops base i o st = some (st1, a)) (h2 : runD E r ops base l st1 = some (R, log2)) :
    runD E r ops base (i :: l) st = some (R, entry a ++ log2) := by
  unfold runD; rw [ho]; dsimp only; rw [h1]; dsimp only; rw [h2]

theorem evOpD_cases {i : Nat} {o : Oper} {st st1 : St} {a : Option Log} (h : evOpD E r ops base i o st = some (st1, a)) :
    (wantedA ops st.t o = true ∧ ∃ A v H, a = some ⟨i, A, A.foot st.H⟩ ∧ act E r (evalO st.t) o.op = some A ∧ A.exec (some (base + i)) st.H = some (v, H) ∧ st1 = ⟨put st.t o.dst v, H⟩) ∨
    (wantedA ops st.t o = false ∧ a = none ∧ st1 = ⟨put st.t o.dst undefA, st.H⟩) := by
  unfold evOpD at h
  split at h
  · rename_i hw
    split at h
    · rename_i A hA
      split at h
      · rename_i v H hex; cases h; exact .inl ⟨hw, A, v, H, rfl, hA, hex, rfl⟩
      · cases h
    · cases h
  · rename_i hw; cases h; exact .inr ⟨hw, rfl, rfl⟩

theorem evOpD_yes {i : Nat} {o : Oper} {st : St} {A : Action} {v : AV} {H : Heap} (hw : wantedA ops st.t o = true) (hA : act E r (evalO st.t) o.op = some A) (hex : A.exec (some (base + i)) st.H = some (v, H)) :
    evOpD E r ops base i o st = some (⟨put st.t o.dst v, H⟩, some ⟨i, A, A.foot st.H⟩) := by
  unfold evOpD; rw [hw]; dsimp only; rw [hA]; dsimp only; rw [hex]
theorem evOpD_no {i : Nat} {o : Oper} {st : St} (hw : wantedA ops st.t o = false) : evOpD E r ops base i o st = some (⟨put st.t o.dst undefA, st.H⟩, none) := by
  unfold evOpD; rw [hw]

/-- y, x in the order of the text may stand as x, y. -/
theorem swapD {y x : Nat} {oy ox : Oper} {st st1 st2 : St} {ay ax : Option Log} (hap : apartB ops oy ox = true)
    (h1 : evOpD E r ops base y oy st = some (st1, ay)) (h2 : evOpD E r ops base x ox st1 = some (st2, ax))
    (hc : ∀ A B, ay = some A → ax = some B → Log.compat base A B = true) :
    ∃ st1', evOpD E r ops base x ox st = some (st1', ax) ∧ evOpD E r ops base y oy st1' = some (st2, ay) := by
  obtain ⟨p1, p2, p3⟩ := apartB_spec hap
  have wx : ∀ u, wantedA ops (put st.t oy.dst u) ox = wantedA ops st.t ox := fun u => wantedA_put ox st.t oy.dst u p1
  have axx : ∀ u, act E r (evalO (put st.t oy.dst u)) ox.op = act E r (evalO st.t) ox.op := fun u => act_put ox st.t oy.dst u p1
  have wy : ∀ u, wantedA ops (put st.t ox.dst u) oy = wantedA ops st.t oy := fun u => wantedA_put oy st.t ox.dst u p3
  have ayy : ∀ u, act E r (evalO (put st.t ox.dst u)) oy.op = act E r (evalO st.t) oy.op := fun u => act_put oy st.t ox.dst u p3
  rcases evOpD_cases h1 with ⟨w1, A, va, H1, rfl, a1, e1, rfl⟩ | ⟨w1, rfl, rfl⟩
  · rcases evOpD_cases h2 with ⟨w2, B, vb, H2, rfl, a2, e2, rfl⟩ | ⟨w2, rfl, rfl⟩
    · dsimp only at w2 a2 e2
      rw [wx] at w2; rw [axx] at a2
      obtain ⟨H1', c1, c2, c3, c4⟩ := exec_comm' (hc _ _ rfl rfl) e1 rfl e2 rfl
      dsimp only at c1 c2 c3 c4
      refine ⟨⟨put st.t ox.dst vb, H1'⟩, by rw [evOpD_yes w2 a2 c1, c2], ?_⟩
      rw [evOpD_yes (st := ⟨put st.t ox.dst vb, H1'⟩) (by dsimp only; rw [wy]; exact w1) (by dsimp only; rw [ayy]; exact a1) c3]
      dsimp only
      rw [put_comm st.t va vb p2, c4]
    · dsimp only at w2
      rw [wx] at w2
      refine ⟨⟨put st.t ox.dst undefA, st.H⟩, evOpD_no w2, ?_⟩
      rw [evOpD_yes (st := ⟨put st.t ox.dst undefA, st.H⟩) (by dsimp only; rw [wy]; exact w1) (by dsimp only; rw [ayy]; exact a1) e1]
      dsimp only
      rw [put_comm st.t va undefA p2]
  · rcases evOpD_cases h2 with ⟨w2, B, vb, H2, rfl, a2, e2, rfl⟩ | ⟨w2, rfl, rfl⟩
    · dsimp only at w2 a2 e2
      rw [wx] at w2; rw [axx] at a2
      refine ⟨⟨put st.t ox.dst vb, H2⟩, evOpD_yes w2 a2 e2, ?_⟩
      rw [evOpD_no (st := ⟨put st.t ox.dst vb, H2⟩) (by dsimp only; rw [wy]; exact w1)]
      dsimp only
      rw [put_comm st.t undefA vb p2]
    · dsimp only at w2
      rw [wx] at w2
      refine ⟨⟨put st.t ox.dst undefA, st.H⟩, evOpD_no w2, ?_⟩
      rw [evOpD_no (st := ⟨put st.t ox.dst undefA, st.H⟩) (by dsimp only; rw [wy]; exact w1)]
      dsimp only
      rw [put_comm st.t undefA undefA p2]

/-- An operation that waits for none of those before it may come first. -/
theorem moveFront {x : Nat} (hst : ∀ y oy ox, ops[y]? = some oy → ops[x]? = some ox → y < x → ¬ Ordered ops y x → apartB ops oy ox = true) : ∀ (s1 : List Nat) {s2 : List Nat} {st R : St} {log : List Log},
    runD E r ops base (s1 ++ x :: s2) st = some (R, log) → (∀ y ∈ s1, y < x ∧ ¬ Ordered ops y x) → (∀ p ∈ log, ∀ q ∈ log, p.i < q.i → Fits ops base p q) →
    ∃ log', runD E r ops base (x :: (s1 ++ s2)) st = some (R, log') ∧ ∀ p, p ∈ log' ↔ p ∈ log := by
  intro s1
  induction s1 with
  | nil => intro s2 st R log h _ _; exact ⟨log, h, fun _ => Iff.rfl⟩
  | cons y s1 ih =>
    intro s2 st R log h hy hf
    obtain ⟨oy, st1, ay, log1, ho, he, hr, rfl⟩ := runD_cons h
    obtain ⟨log1', hr', hm⟩ := ih hr (fun z hz => hy z (.tail _ hz)) (fun p hp q hq => hf p (List.mem_append_right _ hp) q (List.mem_append_right _ hq))
    obtain ⟨ox, st2, ax, log2, hox, hex, hrr, rfl⟩ := runD_cons hr'
    obtain ⟨hlt, hno⟩ := hy y (.head _)
    obtain ⟨st1', e1, e2⟩ := swapD (hst y oy ox ho hox hlt hno) he hex (fun A B hA hB => by
      subst hA hB
      have h1 : B ∈ log1 := (hm _).1 (by simp [entry])
      have eA : A.i = y := by
        rcases evOpD_cases he with ⟨_, _, _, _, hh, _⟩ | ⟨_, hh, _⟩
        · cases hh; rfl
        · cases hh
      have eB : B.i = x := by
        rcases evOpD_cases hex with ⟨_, _, _, _, hh, _⟩ | ⟨_, hh, _⟩
        · cases hh; rfl
        · cases hh
      rcases hf A (by simp [entry]) B (List.mem_append_right _ h1) (by rw [eA, eB]; exact hlt) with h | h
      · exact h
      · rw [eA, eB] at h; exact absurd h hno)
    refine ⟨_, runD_mk hox e1 (runD_mk ho e2 hrr), fun p => ?_⟩
    have := hm p
    simp only [List.mem_append] at this ⊢
    rw [← this]
    constructor
    · rintro (h | h | h)
      · exact .inr (.inl h)
      · exact .inl h
      · exact .inr (.inr h)
    · rintro (h | h | h)
      · exact .inr (.inl h)
      · exact .inl h
      · exact .inr (.inr h)

/-- An order in which each operation comes behind those that it waits for. -/
def LinFrom (ops : List Oper) : List Nat → List Nat → Prop
  | _, [] => True
  | L, x :: rest => (∃ o, ops[x]? = some o ∧ ∀ p ∈ preds o, p ∈ L) ∧ LinFrom ops (x :: L) rest

theorem ordered_pred {n i j : Nat} {o : Oper} (ho : ops[j]? = some o) (h : ordered ops n i j = true) : i ∈ preds o ∨ ∃ p ∈ preds o, Ordered ops i p := by
  cases n with
  | zero => cases h
  | succ n =>
    unfold ordered at h
    rw [ho] at h
    dsimp only at h
    obtain ⟨p, hp, hh⟩ := List.any_eq_true.1 h
    simp only [Bool.or_eq_true, beq_iff_eq, Bool.and_eq_true, decide_eq_true_eq] at hh
    rcases hh with rfl | ⟨_, hh⟩
    · exact .inl hp
    · exact .inr ⟨p, hp, n, hh⟩

theorem permRun (hst : ∀ y x oy ox, ops[y]? = some oy → ops[x]? = some ox → y < x → ¬ Ordered ops y x → apartB ops oy ox = true) : ∀ (π s L : List Nat) {st R : St} {log : List Log},
    s.Pairwise (· < ·) → π.Nodup → (∀ j, j ∈ π ↔ j ∈ s) → LinFrom ops L π → (∀ x ∈ L, ∀ z, Ordered ops z x → z ∈ L) → (∀ x ∈ s, x ∉ L) →
    runD E r ops base s st = some (R, log) → (∀ p ∈ log, ∀ q ∈ log, p.i < q.i → Fits ops base p q) → ∃ log', runD E r ops base π st = some (R, log') := by
  intro π
  induction π with
  | nil =>
    intro s L st R log _ _ hm _ _ _ h _
    have : s = [] := List.eq_nil_iff_forall_not_mem.2 fun j hj => by have := (hm j).2 hj; simp at this
    subst this
    exact ⟨log, h⟩
  | cons x π ih =>
    intro s L st R log hs hnd hm hlin hdown hnot h hf
    obtain ⟨⟨ox, hox, hpre⟩, hlin'⟩ := hlin
    have hxs : x ∈ s := (hm x).1 (.head _)
    obtain ⟨s1, s2, rfl⟩ := List.append_of_mem hxs
    have hordL : ∀ z, Ordered ops z x → z ∈ L := by
      rintro z ⟨n, hz⟩
      rcases ordered_pred hox hz with h | ⟨p, hp, h⟩
      · exact hpre z h
      · exact hdown p (hpre p hp) z h
    have hs1 : ∀ y ∈ s1, y < x ∧ ¬ Ordered ops y x := fun y hy => by
      refine ⟨?_, fun ho => hnot y (List.mem_append_left _ hy) (hordL y ho)⟩
      rw [List.pairwise_append] at hs
      exact hs.2.2 y hy x (.head _)
    obtain ⟨log1, h1, hm1⟩ := moveFront (fun y oy ox' a b c d => hst y x oy ox' a b c d) s1 h hs1 hf
    obtain ⟨o, st1, a, log2, ho, he, hrr, rfl⟩ := runD_cons h1
    obtain ⟨log3, h3⟩ := ih (s1 ++ s2) (x :: L) (by
        rw [List.pairwise_append] at hs ⊢
        refine ⟨hs.1, (List.pairwise_cons.1 hs.2.1).2, fun a ha b hb => hs.2.2 a ha b (.tail _ hb)⟩) (List.nodup_cons.1 hnd).2 (fun j => by
        have hxn := (List.nodup_cons.1 hnd).1
        have hx2 : x ∉ s1 ++ s2 := by
          rw [List.pairwise_append] at hs
          intro hx
          rcases List.mem_append.1 hx with hx | hx
          · have := hs.2.2 x hx x (.head _); omega
          · have := (List.pairwise_cons.1 hs.2.1).1 x hx; omega
        have := hm j
        constructor
        · intro hj
          have h1 := this.1 (.tail _ hj)
          rcases List.mem_append.1 h1 with h1 | h1
          · exact List.mem_append_left _ h1
          · cases h1 with
            | head => exact absurd hj hxn
            | tail _ h1 => exact List.mem_append_right _ h1
        · intro hj
          have h1 := this.2 (by
            rcases List.mem_append.1 hj with h1 | h1
            · exact List.mem_append_left _ h1
            · exact List.mem_append_right _ (.tail _ h1))
          cases h1 with
          | head => exact absurd hj hx2
          | tail _ h1 => exact h1) hlin' (fun z hz u hu => by
        cases hz with
        | head => exact .tail _ (hordL u hu)
        | tail _ hz => exact .tail _ (hdown z hz u hu)) (fun z hz hzl => by
        cases hzl with
        | head =>
          rw [List.pairwise_append] at hs
          rcases List.mem_append.1 hz with hx | hx
          · have := hs.2.2 x hx x (.head _); omega
          · have := (List.pairwise_cons.1 hs.2.1).1 x hx; omega
        | tail _ hzl =>
          refine hnot z ?_ hzl
          rcases List.mem_append.1 hz with h1 | h1
          · exact List.mem_append_left _ h1
          · exact List.mem_append_right _ (.tail _ h1)) hrr (fun p hp q hq => hf p ((hm1 p).1 (List.mem_append_right _ hp)) q ((hm1 q).1 (List.mem_append_right _ hq)))
    exact ⟨_, runD_mk ho he h3⟩

theorem compat_ret {base : Nat} {x y : Log} (h : (∃ u, x.a = .ret u) ∨ ∃ u, y.a = .ret u) : Log.compat base x y = true := by
  obtain ⟨i, a, fa⟩ := x
  obtain ⟨j, b, fb⟩ := y
  dsimp only at h
  rcases h with ⟨u, rfl⟩ | ⟨u, rfl⟩
  · rfl
  · cases a <;> rfl

/-- The run in the order of the text, with the clashes looked for. -/
theorem evOpsD_run : ∀ (rest : List Oper) (i : Nat) (log : List Log) (st R : St), ops.drop i = rest → (∀ p ∈ log, p.i < i) → evOpsD E r ops base i rest log st = some R →
    ∃ log', runD E r ops base (List.range' i rest.length) st = some (R, log') ∧ (∀ p ∈ log', i ≤ p.i) ∧ (∀ p ∈ log ++ log', ∀ q ∈ log', p.i < q.i → Fits ops base p q) := by
  intro rest
  induction rest with
  | nil =>
    intro i log st R _ _ h
    simp only [evOpsD, Option.some.injEq] at h; subst h
    exact ⟨[], rfl, by simp, by simp⟩
  | cons o rest ih =>
    intro i log st R hd hlog h
    have ho : ops[i]? = some o := by
      have := congrArg (·[0]?) hd
      simpa using this
    have hd' : ops.drop (i + 1) = rest := by rw [← List.drop_drop, hd]; rfl
    have join : ∀ (st1 : St) (e : Log), evOpD E r ops base i o st = some (st1, some e) → e.i = i → (∀ p ∈ log, Fits ops base p e) → (∀ (q : Log), (∃ u, e.a = .ret u) → Fits ops base e q) →
        ∀ log0, log0 = log ∨ log0 = e :: log → (log0 = log → ∃ u, e.a = .ret u) → evOpsD E r ops base (i + 1) rest log0 st1 = some R →
        ∃ log', runD E r ops base (List.range' i (o :: rest).length) st = some (R, log') ∧ (∀ p ∈ log', i ≤ p.i) ∧ (∀ p ∈ log ++ log', ∀ q ∈ log', p.i < q.i → Fits ops base p q) := by
      intro st1 e he hei hcf hret log0 hl0 hl1 hrun
      obtain ⟨log', h1, h2, h3⟩ := ih (i + 1) log0 st1 R hd' (fun p hp => by
        rcases hl0 with rfl | rfl
        · exact Nat.lt_succ_of_lt (hlog p hp)
        · cases hp with
          | head => rw [hei]; exact Nat.lt_succ_self _
          | tail _ hp => exact Nat.lt_succ_of_lt (hlog p hp)) hrun
      refine ⟨e :: log', by rw [List.length_cons, List.range'_succ]; exact runD_mk ho he h1, fun p hp => ?_, fun p hp q hq hlt => ?_⟩
      · cases hp with
        | head => rw [hei]; exact Nat.le_refl _
        | tail _ hp => exact Nat.le_of_succ_le (h2 p hp)
      · cases hq with
        | head =>
          rcases List.mem_append.1 hp with hp | hp
          · exact hcf p hp
          · cases hp with
            | head => exact absurd hlt (Nat.lt_irrefl _)
            | tail _ hp => have := h2 p hp; rw [hei] at hlt; omega
        | tail _ hq =>
          rcases List.mem_append.1 hp with hp | hp
          · refine h3 p ?_ q hq hlt
            rcases hl0 with rfl | rfl
            · exact List.mem_append_left _ hp
            · exact List.mem_append_left _ (.tail _ hp)
          · cases hp with
            | head =>
              rcases hl0 with hl | hl
              · exact hret q (hl1 hl)
              · exact h3 e (by rw [hl]; exact List.mem_append_left _ (.head _)) q hq hlt
            | tail _ hp => exact h3 p (List.mem_append_right _ hp) q hq hlt
    unfold evOpsD at h
    split at h
    · rename_i hw
      split at h
      case h_2 => cases h
      rename_i A hA
      split at h
      case h_2 => cases h
      rename_i v H hex
      have he := evOpD_yes (base := base) (i := i) hw hA hex
      split at h
      · rename_i u
        exact join _ _ he rfl (fun p _ => .inl (compat_ret (.inr ⟨u, rfl⟩))) (fun q hq => .inl (compat_ret (.inl hq))) log (.inl rfl) (fun _ => ⟨u, rfl⟩) h
      · split at h
        · cases h
        · rename_i hcl
          have hcf : ∀ p ∈ log, Fits ops base p ⟨i, A, A.foot st.H⟩ := by
            have : ∀ l : List Log, clash ops base ⟨i, A, A.foot st.H⟩ l = false → ∀ p ∈ l, Fits ops base p ⟨i, A, A.foot st.H⟩ := by
              intro l
              induction l with
              | nil => intro _ p hp; cases hp
              | cons q l ihl =>
                intro hh p hp
                simp only [clash] at hh
                cases hq : (Log.compat base q ⟨i, A, A.foot st.H⟩ || ordered ops ops.length q.i i) with
                | false => rw [hq] at hh; cases hh
                | true =>
                  rw [hq] at hh
                  cases hp with
                  | head =>
                    rw [Bool.or_eq_true] at hq
                    exact hq.imp id fun h => ⟨_, h⟩
                  | tail _ hp => exact ihl hh p hp
            exact this log hcl
          exact join _ _ he rfl hcf (fun q hq => .inl (compat_ret (.inl hq))) _ (.inr rfl) (fun e => by
            have := congrArg List.length e; simp at this) h
    · rename_i hw
      have he := evOpD_no (E := E) (r := r) (base := base) (i := i) hw
      obtain ⟨log', h1, h2, h3⟩ := ih (i + 1) log _ R hd' (fun p hp => Nat.lt_succ_of_lt (hlog p hp)) h
      exact ⟨log', by rw [List.length_cons, List.range'_succ]; exact runD_mk ho he h1, fun p hp => Nat.le_of_succ_le (h2 p hp), h3⟩
end

-- ---------------------------------------------------------------- the orders that the model draws
theorem lin_go (ops : Array Oper) (hpre : ∀ (j : Nat) o, ops[j]? = some o → ∀ p ∈ preds o, p < j) : ∀ (fuel t : Nat) (listed : Array Bool) (L : List Nat), listed.size = ops.size →
    (∀ j, j < ops.size → (listed.getD j false = true ↔ j ∈ L)) → ((List.range ops.size).filter (fun j => !listed.getD j false)).length ≤ fuel →
    (Region.linearise.go .any ops fuel t listed []).Nodup ∧ (∀ j, j ∈ Region.linearise.go .any ops fuel t listed [] ↔ (j < ops.size ∧ j ∉ L)) ∧ LinFrom ops.toList L (Region.linearise.go .any ops fuel t listed []) := by
  intro fuel
  induction fuel with
  | zero =>
    intro t listed L hsz hL hcnt
    simp only [Region.linearise.go, List.reverse_nil]
    refine ⟨List.nodup_nil, fun j => ⟨(fun h => by cases h), fun ⟨hj, hn⟩ => ?_⟩, trivial⟩
    exfalso
    have : j ∈ (List.range ops.size).filter (fun j => !listed.getD j false) := List.mem_filter.2 ⟨List.mem_range.2 hj, by
      have := mt (hL j hj).1 hn
      simpa using this⟩
    have := List.length_pos_of_mem this
    omega
  | succ fuel ih =>
    intro t listed L hsz hL hcnt
    simp only [Region.linearise.go]
    change (match (Region.ready .any ops listed)[t % (Region.ready .any ops listed).length]? with
      | some i => Region.linearise.go .any ops fuel (t / (Region.ready .any ops listed).length) (listed.setIfInBounds i true) [i]
      | none => [].reverse).Nodup ∧ (∀ j, j ∈ (match (Region.ready .any ops listed)[t % (Region.ready .any ops listed).length]? with
      | some i => Region.linearise.go .any ops fuel (t / (Region.ready .any ops listed).length) (listed.setIfInBounds i true) [i]
      | none => [].reverse) ↔ (j < ops.size ∧ j ∉ L)) ∧ LinFrom ops.toList L (match (Region.ready .any ops listed)[t % (Region.ready .any ops listed).length]? with
      | some i => Region.linearise.go .any ops fuel (t / (Region.ready .any ops listed).length) (listed.setIfInBounds i true) [i]
      | none => [].reverse)
    have gd : ∀ j, j < ops.size → listed.getD j true = listed.getD j false := fun j hj => by
      simp [Array.getD, hsz, hj]
    cases hi : (Region.ready .any ops listed)[t % (Region.ready .any ops listed).length]? with
    | none =>
      have hnil : Region.ready .any ops listed = [] := by
        cases hr : Region.ready .any ops listed with
        | nil => rfl
        | cons x xs =>
          rw [hr] at hi
          have hlt : t % (x :: xs).length < (x :: xs).length := Nat.mod_lt _ (by simp)
          rw [List.getElem?_eq_none_iff] at hi
          omega
      have hall : ∀ j, j < ops.size → j ∈ L := by
        intro j
        induction j using Nat.strongRecOn with
        | _ j ihj =>
          intro hj
          apply Decidable.byContradiction
          intro hn
          have hready : j ∈ Region.ready .any ops listed := by
            rw [mem_ready]
            refine ⟨?_, ops[j], by simp [hj], fun e he hb => ?_⟩
            · have := mt (hL j hj).1 hn
              rw [gd j hj]; simpa using this
            · have hp : e.on ∈ preds ops[j] := List.mem_filterMap.2 ⟨e, by simpa using he, by rw [if_pos hb]⟩
              have hlt := hpre j ops[j] (by simp [hj]) e.on hp
              exact (hL e.on (by omega)).2 (ihj e.on hlt (by omega))
          rw [hnil] at hready; cases hready
      exact ⟨List.nodup_nil, fun j => ⟨(fun h => by cases h), fun ⟨hj, hn⟩ => absurd (hall j hj) hn⟩, trivial⟩
    | some i =>
      dsimp only
      rw [linearise_go_acc, List.reverse_singleton, List.singleton_append]
      have hmem := List.mem_of_getElem? hi
      rw [mem_ready] at hmem
      obtain ⟨hun, o, ho, hpr⟩ := hmem
      have hilt : i < ops.size := (Array.getElem?_eq_some_iff.1 ho).1
      have hiL : i ∉ L := fun h => by
        have := (hL i hilt).2 h
        rw [← gd i hilt, hun] at this; cases this
      have hgs : ∀ j, j < ops.size → ((listed.setIfInBounds i true).getD j false = true ↔ j ∈ i :: L) := fun j hj => by
        by_cases hij : i = j
        · subst hij; simp [Array.getD, hsz, hj]
        · have e : (listed.setIfInBounds i true).getD j false = listed.getD j false := by simp [Array.getD, hsz, hj, hij]
          rw [e, hL j hj]
          simp [Ne.symm hij]
      have hcnt' : ((List.range ops.size).filter (fun j => !(listed.setIfInBounds i true).getD j false)).length ≤ fuel := by
        have hsub : ((List.range ops.size).filter (fun j => !(listed.setIfInBounds i true).getD j false)).length < ((List.range ops.size).filter (fun j => !listed.getD j false)).length := by
          rw [← List.countP_eq_length_filter, ← List.countP_eq_length_filter]
          have hle : ∀ (l : List Nat), (∀ j ∈ l, j < ops.size) → List.countP (fun j => !(listed.setIfInBounds i true).getD j false) l ≤ List.countP (fun j => !listed.getD j false) l ∧
              (i ∈ l → List.countP (fun j => !(listed.setIfInBounds i true).getD j false) l < List.countP (fun j => !listed.getD j false) l) := by
            intro l
            induction l with
            | nil => intro _; exact ⟨Nat.le_refl _, (fun h => by cases h)⟩
            | cons j l ihl =>
              intro hl
              obtain ⟨h1, h2⟩ := ihl fun j hj => hl j (.tail _ hj)
              rw [List.countP_cons, List.countP_cons]
              have hj := hl j (.head _)
              by_cases hij : i = j
              · subst hij
                have e1 : (listed.setIfInBounds i true).getD i false = true := (hgs i hj).2 (.head _)
                have e2 : listed.getD i false = false := by rw [← gd i hj]; exact hun
                rw [e1, e2]
                simp only [Bool.not_true, Bool.not_false, Bool.false_eq_true, if_false, if_true]
                exact ⟨by omega, fun _ => by omega⟩
              · have e : (listed.setIfInBounds i true).getD j false = listed.getD j false := by simp [Array.getD, hsz, hj, hij]
                rw [e]
                refine ⟨by omega, fun hm => ?_⟩
                cases hm with
                | head => exact absurd rfl hij
                | tail _ hm => have := h2 hm; omega
          exact (hle _ fun j hj => List.mem_range.1 hj).2 (List.mem_range.2 hilt)
        omega
      obtain ⟨a1, a2, a3⟩ := ih (t / (Region.ready .any ops listed).length) (listed.setIfInBounds i true) (i :: L) (by simp [hsz]) hgs hcnt'
      refine ⟨List.nodup_cons.2 ⟨fun h => by have := (a2 i).1 h; exact this.2 (.head _), a1⟩, fun j => ?_, ⟨o, by simpa using ho, fun p hp => ?_⟩, a3⟩
      · constructor
        · intro h
          cases h with
          | head => exact ⟨hilt, hiL⟩
          | tail _ h => have := (a2 j).1 h; exact ⟨this.1, fun hh => this.2 (.tail _ hh)⟩
        · rintro ⟨hj, hn⟩
          by_cases hij : j = i
          · subst hij; exact .head _
          · exact .tail _ ((a2 j).2 ⟨hj, fun hh => by cases hh with
              | head => exact hij rfl
              | tail _ hh => exact hn hh⟩)
      · obtain ⟨e, he, hee⟩ := List.mem_filterMap.1 hp
        split at hee
        · rename_i hb
          cases hee
          have hlt := hpre i o ho e.on hp
          have := hpr e (by simpa using he) hb
          exact (hL e.on (by omega)).1 this
        · cases hee

theorem drawOps_spec {ops : List Oper} (h : drawOps ops = true) : (∀ (j : Nat) o, ops[j]? = some o → ∀ p ∈ preds o, p < j) ∧
    (∀ y x oy ox, ops[y]? = some oy → ops[x]? = some ox → y < x → ¬ Ordered ops y x → apartB ops oy ox = true) := by
  unfold drawOps at h
  simp only [Bool.and_eq_true] at h
  obtain ⟨h1, h2⟩ := h
  refine ⟨fun j o ho p hp => ?_, fun y x oy ox hy hx hlt hno => ?_⟩
  · have hm : (o, j) ∈ ops.zipIdx := by
      rw [List.mem_zipIdx_iff_getElem?]; simpa using ho
    have := List.all_eq_true.1 h1 (o, j) hm
    exact of_decide_eq_true (List.all_eq_true.1 this p hp)
  · have hm : (ox, x) ∈ ops.zipIdx := by
      rw [List.mem_zipIdx_iff_getElem?]; simpa using hx
    have := List.all_eq_true.1 h2 (ox, x) hm
    dsimp only at this
    have hm2 : (oy, y) ∈ (ops.take x).zipIdx := by
      rw [List.mem_zipIdx_iff_getElem?]; simp only [Nat.zero_le, Nat.sub_zero]
      rw [List.getElem?_take, if_pos hlt]; exact hy
    have := List.all_eq_true.1 this (oy, y) hm2
    simp only [Bool.or_eq_true] at this
    rcases this with h | h
    · exact h
    · exact absurd ⟨_, h⟩ hno
end Go.Ab
