/- Calls: what a callee leaves, seen from its caller. Calls of functions, of closures and of yield. -/
import Derived.Test.YtockpchpaemfgaaGreatDoorAbOps9
set_option linter.all false
namespace Go.Ab

def CallRun (P : Program) (f : FuncId) (args : List Value) (w : World) (v : Value) (w' : World) : Prop :=
  ∀ cs, ∃ fr, Steps P (lone (Frame.enter P f args.toArray .normal) cs w) (lone fr cs w') ∧ fr.fn = f ∧ fr.leaving P w' (.returned v)

theorem CallRun.back {P : Program} {f : FuncId} {args : List Value} {w w' : World} {v : Value} (h : CallRun P f args w v w') (c : Frame) (cs : List Frame) :
    Steps P (lone (Frame.enter P f args.toArray .normal) (c :: cs) w) (lone (c.finish v) cs w') := by
  obtain ⟨fr, h1, _, h2⟩ := h (c :: cs)
  exact h1.trans (.one (step_leave_returned h2))

def Enters (P : Program) (f : FuncId) : Prop := ∀ args w, (callFunc f args).run P w = .ok (.enter f args) w

/-- What the call of function f comes to. -/
def FnDoes (P : Program) (f : FuncId) (args : List Value) (w : World) (v : Value) (w' : World) : Prop :=
  (Enters P f ∧ CallRun P f args w v w') ∨ (callFunc f args.toArray).run P w = .ok (.value v) w'

def noInj : Inj := fun _ => none

/-- A summary of a function that holds for whatever memory. -/
def HookOK (P : Program) (E : Env) (f : FuncId) (h : List AV → Option AV) : Prop :=
  ∀ args v, h args = some v → allPure args = true → ∀ I w vs, RelH I noInj .empty w → VRs I noInj w args vs → GlobOK E I w →
    ∃ I' w' vm, RelH I' noInj .empty w' ∧ VR I' noInj w' v vm ∧ Ext I noInj .empty w I' noInj .empty w' ∧ FnDoes P f vs w vm w'

/-- A summary of a function that works on the caller's memory. -/
def SHookOK (P : Program) (E : Env) (f : FuncId) (h : List AV → Heap → Option (AV × Heap)) : Prop :=
  ∀ args H v H', h args H = some (v, H') → ∀ I ι w vs, RelH I ι H w → VRs I ι w args vs → GlobOK E I w →
    ∃ I' ι' w' vm, RelH I' ι' H' w' ∧ VR I' ι' w' v vm ∧ Ext I ι H w I' ι' H' w' ∧ (∀ id, id < H.n → ι' id = ι id) ∧ FnDoes P f vs w vm w'

def CallSim (P : Program) (E : Env) (f : FuncId) (args : List AV) (H : Heap) (v : AV) (H' : Heap) : Prop :=
  ∀ I ι w vs, RelH I ι H w → VRs I ι w args vs → GlobOK E I w →
    ∃ I' ι' w' vm, RelH I' ι' H' w' ∧ VR I' ι' w' v vm ∧ Ext I ι H w I' ι' H' w' ∧ (∀ id, id < H.n → ι' id = ι id) ∧ Enters P f ∧ CallRun P f vs w vm w'

theorem own_empty {ι : Inj} {b o : Nat} (h : Own ι .empty b o) : False := by
  obtain ⟨id, r, _, h⟩ := h
  rw [Heap.get_empty] at h; exact h

theorem own_none {H : Heap} {b o : Nat} (h : Own noInj H b o) : False := by
  obtain ⟨id, r, h, _⟩ := h; cases h

theorem relH_empty {I : Imm} {w : World} (h : ∀ b o, I b o → ∃ v, w.cell? ⟨b, o, none⟩ = some v) : RelH I noInj .empty w :=
  ⟨Heap.wf_empty, (fun _ _ h => by cases h), fun id h => absurd (Heap.get_empty id) h, (fun _ _ h => by cases h), (fun _ _ _ _ _ h => by cases h), fun b o hi => ⟨h b o hi, fun hh => own_none hh⟩⟩

theorem RelH.alone {I : Imm} {ι : Inj} {H : Heap} {w : World} (h : RelH I ι H w) : RelH I noInj .empty w := relH_empty fun b o hi => (h.imm b o hi).1

theorem allIsD_eq {xs : List AV} (h : allIsD xs = true) : ∃ ds : List D, xs = ds.map .d := by
  induction xs with
  | nil => exact ⟨[], rfl⟩
  | cons x xs ih =>
    cases x <;> simp only [allIsD, Bool.false_eq_true] at h
    obtain ⟨ds, rfl⟩ := ih h
    exact ⟨_ :: ds, rfl⟩

theorem vrs_d_any {I : Imm} {ι ι' : Inj} {w : World} {ds : List D} {vs : List Value} (h : VRs I ι w (ds.map .d) vs) : VRs I ι' w (ds.map .d) vs :=
  ⟨h.len, fun i y u h1 h2 => by
    have := h.at_ i y u h1 h2
    simp only [List.getElem?_map] at h1
    cases hd : ds[i]? with
    | none => rw [hd] at h1; cases h1
    | some d => rw [hd] at h1; cases h1; cases this with | d h => exact .d h⟩

theorem vr_pure {I : Imm} {ι ι' : Inj} {w : World} {x : AV} {v : Value} (hp : x.pure = true) (h : VR I ι w x v) : VR I ι' w x v := by
  cases x <;> simp only [AV.pure, Bool.false_eq_true] at hp
  · cases h with | d h => exact .d h
  · obtain ⟨vs, rfl, hs⟩ := vr_agg h
    obtain ⟨ds, rfl⟩ := allIsD_eq hp
    exact VR.agg' (vrs_d_any hs)

theorem vrs_pure {I : Imm} {ι ι' : Inj} {w : World} {xs : List AV} {vs : List Value} (hp : allPure xs = true) (h : VRs I ι w xs vs) : VRs I ι' w xs vs := by
  induction xs generalizing vs with
  | nil => rw [h.unnil]; exact VRs.nil
  | cons x xs ih =>
    obtain ⟨v, vs', rfl, h1, h2⟩ := h.uncons
    simp only [allPure] at hp
    cases hx : x.pure with
    | false => rw [hx] at hp; cases hp
    | true => rw [hx] at hp; exact (ih hp h2).cons (vr_pure hx h1)

theorem vr_none {I : Imm} {ι : Inj} {w : World} {x : AV} {v : Value} (h : VR I noInj w x v) : VR I ι w x v :=
  h.mono (fun _ _ h => h) (fun _ _ _ _ h => h) (fun _ _ h => by cases h)

theorem inR_lt {I : Imm} {ι : Inj} {H : Heap} {w : World} (hr : RelH I ι H w) {j : Nat} {s : Nat × Nat × Nat} (hj : ι j = some s) {b o : Nat} (hin : InR s (H.get j) b o) : b < w.heap.size := by
  have := (hr.lt j s hj).2
  cases hB : H.get j <;> rw [hB] at hin <;> simp only [InR] at hin
  · rw [hin.1]; exact this
  · rw [hin]; exact this
  · rw [hin]; exact this
  · rw [hin]; exact this
  · rw [hin]; exact this
theorem own_lt {I : Imm} {ι : Inj} {H : Heap} {w : World} (hr : RelH I ι H w) {b o : Nat} (h : Own ι H b o) : b < w.heap.size := by
  obtain ⟨j, s, hj, hin⟩ := h
  exact inR_lt hr hj hin

/-- What a callee that saw nothing of the caller's memory leaves. -/
theorem calleeDone {I I' : Imm} {ι ι' : Inj} {H H1 : Heap} {w w' : World} (hr : RelH I ι H w) (hr' : RelH I' ι' H1 w') (hx : Ext I noInj .empty w I' ι' H1 w') : RelH I' ι H w' ∧ Ext I ι H w I' ι H w' := by
  have hno : ∀ b o, ¬ Own noInj .empty b o := fun b o h => own_none h
  have hold : ∀ b o, b < w.heap.size → I' b o → I b o := fun b o hlt hj => by
    rcases hx.immOld b o hlt hj with h | h
    · exact h
    · exact absurd h (hno b o)
  refine ⟨⟨hr.wf, fun id r hi => ⟨(hr.lt id r hi).1, Nat.lt_of_lt_of_le (hr.lt id r hi).2 hx.size⟩, hr.live, fun id r hi => ?_, hr.sep, fun b o hj => ⟨(hr'.imm b o hj).1, fun hown => (hr.imm b o (hold b o (own_lt hr hown) hj)).2 hown⟩⟩,
    ⟨hx.os, hx.output, hx.tape, hx.drawn, hx.size, fun b c e fr hb => let ⟨c', a, b', d⟩ := hx.cells b c e fr hb; ⟨c', a, b', fun o _ => d o (hno _ o)⟩, fun b o hb hc _ => hx.objs b o hb hc (hno _ _), hx.loops, fun _ _ h => h, Nat.le_refl _, hx.immMono, fun b o hlt hj => .inl (hold b o hlt hj), fun _ _ _ h => h⟩⟩
  exact (hr.blk id r hi).mono hx.immMono (fun b o v hi hv => hx.cell hv (hno _ _)) (fun _ _ h => h)
      (fun b c e fr hb => let ⟨c', a, _, d⟩ := hx.cells b c e fr hb; ⟨c', a, fun o _ => d o (hno _ o)⟩) (fun b o hb hc _ => hx.objs b o hb hc (hno _ _))

/-- A callee whose memory is forgotten. -/
theorem Ext.forget {I I' : Imm} {ι' : Inj} {H1 : Heap} {w w' : World} (hx : Ext I noInj .empty w I' ι' H1 w') : Ext I noInj .empty w I' noInj .empty w' :=
  ⟨hx.os, hx.output, hx.tape, hx.drawn, hx.size, hx.cells, hx.objs, hx.loops, fun _ _ h => h, Nat.le_refl _, hx.immMono, hx.immOld, fun _ _ _ h => h⟩

-- ---------------------------------------------------------------- what becomes immutable
/-- What making a cell immutable comes to. -/
def IceOK (g : Heap → AV → Option (D × Heap)) : Prop :=
  ∀ {I : Imm} {ι : Inj} {H H' : Heap} {w : World} {x : AV} {d : D} {v : Value}, RelH I ι H w → g H x = some (d, H') → VR I ι w x v → ∃ I', RelH I' ι H' w ∧ Ext I ι H w I' ι H' w ∧ DR I' w d v

theorem iceCells_sim {g : Heap → AV → Option (D × Heap)} (hg : IceOK g) : ∀ (xs : List AV) {I : Imm} {ι : Inj} {H H' : Heap} {w : World} {ds : List D} {vs : List Value}, RelH I ι H w → iceCells g H xs = some (ds, H') → VRs I ι w xs vs →
    ∃ I', RelH I' ι H' w ∧ Ext I ι H w I' ι H' w ∧ VRs I' ι w (ds.map .d) vs := by
  intro xs
  induction xs with
  | nil =>
    intro I ι H H' w ds vs hr h hv
    simp only [iceCells, Option.some.injEq, Prod.mk.injEq] at h
    obtain ⟨rfl, rfl⟩ := h
    rw [hv.unnil]
    exact ⟨I, hr, Ext.refl I ι H w, VRs.nil⟩
  | cons x xs ih =>
    intro I ι H H' w ds vs hr h hv
    obtain ⟨v, vs', rfl, h1, h2⟩ := hv.uncons
    unfold iceCells at h
    split at h
    · rename_i y
      split at h
      · rename_i ds' H1 hrest
        cases h
        obtain ⟨I', a1, a2, a3⟩ := ih hr hrest h2
        exact ⟨I', a1, a2, a3.cons (a2.vr hr h1)⟩
      · cases h
    · split at h
      · rename_i d H1 hx
        split at h
        · rename_i ds' H2 hrest
          cases h
          obtain ⟨I1, a1, a2, a3⟩ := hg hr hx h1
          obtain ⟨I2, b1, b2, b3⟩ := ih a1 hrest (a2.vrs hr h2)
          exact ⟨I2, b1, a2.trans b2, b3.cons (b2.vr a1 (.d a3))⟩
        · cases h
      · cases h

/-- The cells of a block become immutable up to some place. -/
theorem iceRow {g : Heap → AV → Option (D × Heap)} (hg : IceOK g) {I : Imm} {ι : Inj} {H H' : Heap} {w : World} (hr : RelH I ι H w) {b k o e m m' : Nat} (hb : ι b = some (k, o, e)) {cs l : List AV} (hget : H.get b = .cells m cs)
    (hm' : m' ≤ cs.length) {off n : Nat} (hcut : cut cs off n = some l) (hoff : off + n ≤ m') {ds : List D} (h : iceCells g (bif Nat.ble m' m then H else H.set b (.cells m' cs)) l = some (ds, H')) :
    ∃ I' vs, RelH I' ι H' w ∧ Ext I ι H w I' ι H' w ∧ vs.length = n ∧ VRs I' ι w (ds.map .d) vs ∧ ∀ (j : Nat) v, vs[j]? = some v → w.cell? ⟨k, o + off + j, none⟩ = some v ∧ I' k (o + off + j) := by
  obtain ⟨vs, h1, h2⟩ := br_cut hr hb hget hcut
  have hlen : vs.length = n := by rw [h1.len]; exact (cut_spec hcut).2.2
  have hbr := hr.blk b _ hb
  rw [hget] at hbr
  cases hle : Nat.ble m' m with
  | true =>
    rw [hle] at h
    simp only [cond_true] at h
    have hle := of_nble hle
    obtain ⟨I', a1, a2, a3⟩ := iceCells_sim hg l hr h h1
    refine ⟨I', vs, a1, a2, hlen, a3, fun j v hj => ⟨h2 j v hj, a2.immMono _ _ ?_⟩⟩
    have hjl := (List.getElem?_eq_some_iff.1 hj).1
    have := hbr.2.2.1 (off + j) (by omega)
    dsimp only at this; rw [Nat.add_assoc]; exact this
  | false =>
    rw [hle] at h
    simp only [cond_false] at h
    have hle := of_nble_f hle
    obtain ⟨c1, c2⟩ := iceBlk hr hb hget (m' := m') (by omega) hm'
    obtain ⟨I', a1, a2, a3⟩ := iceCells_sim hg l c1 h (c2.vrs hr h1)
    refine ⟨I', vs, a1, c2.trans a2, hlen, a3, fun j v hj => ⟨h2 j v hj, a2.immMono _ _ (.inr ⟨rfl, ?_, ?_⟩)⟩⟩
    · dsimp only; omega
    · have hjl := (List.getElem?_eq_some_iff.1 hj).1
      dsimp only; omega

theorem iceCell_sim : ∀ n, IceOK (iceCell n) := by
  intro n
  induction n with
  | zero => intro I ι H H' w x d v hr h hx; cases h
  | succ n ih =>
    intro I ι H H' w x d v hr h hx
    unfold iceCell at h
    split at h
    · cases h; cases hx with | d h => exact ⟨I, hr, Ext.refl I ι H w, h⟩
    · rename_i b off len esz cap
      cases h0 : Nat.beq (Nat.mul len esz) 0 with
      | true =>
        rw [h0] at h
        simp only [cond_true] at h
        cases hl : Nat.beq len 0 with
        | false => rw [hl] at h; cases h
        | true =>
          rw [hl] at h; cases h
          have := of_nbeq hl; subst this
          refine ⟨I, hr, Ext.refl I ι H w, ?_⟩
          cases hx with
          | sl => exact .nil _ _
          | sl0 => exact .nil _ _
      | false =>
        rw [h0] at h
        simp only [cond_false] at h
        have h0 : ¬ len * esz = 0 := of_nbeq_f h0
        split at h
        case h_2 => cases h
        rename_i m cs hg
        split at h
        case h_2 => cases h
        rename_i l hcut
        split at h
        case h_2 => cases h
        rename_i ds H1 hice
        cases h
        cases hx with
        | sl hb hc hk hbase hext =>
          rename_i c k o e base
          rcases hbase with hb0 | hb0
          · exfalso; apply h0; have : len = 0 := by omega
            rw [this]; simp
          · subst hb0
            have hcs := (cut_spec hcut).1
            obtain ⟨I', vs, a1, a2, a3, a4, a5⟩ := iceRow ih hr hb hg (m' := off + len * esz) hcs hcut (Nat.le_refl _) hice
            refine ⟨I', a1, a2, cellsD_lit (fun i x hx => ?_) hc⟩
            obtain ⟨v, hv1, hv2⟩ := a4.get (i := i) (x := .d x) (by simp [hx])
            cases hv2 with | d hv2 => exact ⟨v, (a5 i v hv1).1, (a5 i v hv1).2, hv2⟩
        | sl0 => exact absurd (by simp) h0
    · rename_i b off
      split at h
      case h_2 => cases h
      rename_i m cs hg
      split at h
      case h_2 => cases h
      rename_i l hsk
      split at h
      case h_2 => cases h
      rename_i ds H1 hice
      cases h
      obtain ⟨hs1, hs2⟩ := skip_spec hsk
      have hcut : cut cs off (cs.length - off) = some l := by
        rw [cut_eq, if_pos (by omega), hs2, List.take_of_length_le (by simp)]
      cases hx with
      | ptr hb =>
        obtain ⟨I', vs, a1, a2, a3, a4, a5⟩ := iceRow ih hr hb hg (m' := cs.length) (Nat.le_refl _) hcut (by omega) hice
        refine ⟨I', a1, a2, cellsD_ptr (fun i x hx => ?_)⟩
        obtain ⟨v, hv1, hv2⟩ := a4.get (i := i) (x := .d x) (by simp [hx])
        cases hv2 with | d hv2 => exact ⟨v, (a5 i v hv1).1, (a5 i v hv1).2, hv2⟩
    · rename_i f caps
      split at h
      case h_2 => cases h
      rename_i ds H1 hice
      cases h
      cases hx with
      | fn hlv hv =>
        obtain ⟨I', a1, a2, a3⟩ := iceCells_sim ih caps hr hice ⟨hlv, hv⟩
        refine ⟨I', a1, a2, .fn f ds _ (by simpa using a3.len) fun i d v hd hv => ?_⟩
        have := a3.at_ i (.d d) v (by simp [hd]) hv
        cases this with | d h => exact h
    · cases h

theorem iceVal_sim {I : Imm} {ι : Inj} {H H' : Heap} {w : World} {x y : AV} {v : Value} (hr : RelH I ι H w) (h : iceVal H x = some (y, H')) (hx : VR I ι w x v) :
    ∃ I', RelH I' ι H' w ∧ Ext I ι H w I' ι H' w ∧ VR I' ι w y v ∧ y.pure = true := by
  unfold iceVal at h
  split at h
  · cases h; exact ⟨I, hr, Ext.refl I ι H w, hx, rfl⟩
  · rename_i cs
    split at h
    case h_2 => cases h
    rename_i ds H1 hice
    cases h
    obtain ⟨vs, rfl, hs⟩ := vr_agg hx
    obtain ⟨I', a1, a2, a3⟩ := iceCells_sim (iceCell_sim 12) cs hr hice hs
    refine ⟨I', a1, a2, VR.agg' a3, ?_⟩
    clear a3 hice
    show allIsD (ds.map .d) = true
    induction ds with
    | nil => rfl
    | cons d ds ih => exact ih
  · split at h
    case h_2 => cases h
    rename_i d H1 hice
    cases h
    obtain ⟨I', a1, a2, a3⟩ := iceCell_sim 12 hr hice hx
    exact ⟨I', a1, a2, .d a3, rfl⟩

theorem iceVals_sim : ∀ (xs : List AV) {I : Imm} {ι : Inj} {H H' : Heap} {w : World} {ys : List AV} {vs : List Value}, RelH I ι H w → iceVals H xs = some (ys, H') → VRs I ι w xs vs →
    ∃ I', RelH I' ι H' w ∧ Ext I ι H w I' ι H' w ∧ VRs I' ι w ys vs ∧ allPure ys = true := by
  intro xs
  induction xs with
  | nil =>
    intro I ι H H' w ds vs hr h hv
    simp only [iceVals, Option.some.injEq, Prod.mk.injEq] at h
    obtain ⟨rfl, rfl⟩ := h
    rw [hv.unnil]
    exact ⟨I, hr, Ext.refl I ι H w, VRs.nil, rfl⟩
  | cons x xs ih =>
    intro I ι H H' w ds vs hr h hv
    obtain ⟨v, vs', rfl, h1, h2⟩ := hv.uncons
    unfold iceVals at h
    split at h
    case h_2 => cases h
    rename_i y H1 hx
    split at h
    case h_2 => cases h
    rename_i ys H2 hrest
    cases h
    obtain ⟨I1, a1, a2, a3, a4⟩ := iceVal_sim hr hx h1
    obtain ⟨I2, b1, b2, b3, b4⟩ := ih a1 hrest (a2.vrs hr h2)
    exact ⟨I2, b1, a2.trans b2, b3.cons (b2.vr a1 a3), by simp only [allPure, a4]; exact b4⟩

/-- A result, read to the bottom. -/
theorem freeze_sim {I : Imm} {ι : Inj} {H : Heap} {w : World} {x y : AV} {v : Value} (hr : RelH I ι H w) (h : freeze H x = some y) (hx : VR I ι w x v) :
    ∃ I' H', RelH I' ι H' w ∧ Ext I ι H w I' ι H' w ∧ VR I' noInj w y v := by
  unfold freeze at h
  split at h
  · rename_i vs
    split at h
    case h_2 => cases h
    rename_i ys H1 hice
    cases h
    obtain ⟨us, rfl, hs⟩ := vr_tup hx
    obtain ⟨I', a1, a2, a3, a4⟩ := iceVals_sim vs hr hice hs
    exact ⟨I', H1, a1, a2, VR.tup' (vrs_pure a4 a3)⟩
  · split at h
    case h_2 => cases h
    rename_i z H1 hice
    cases h
    obtain ⟨I', a1, a2, a3, a4⟩ := iceVal_sim hr hice hx
    exact ⟨I', H1, a1, a2, vr_pure a4 a3⟩

-- ---------------------------------------------------------------- a callee's memory, grafted onto the caller's
mutual
theorem shift_vr_ind {I : Imm} {ι ι'' : Inj} {w : World} {k : Nat} (hk : ∀ id r, ι id = some r → ι'' (id + k) = some r) : ∀ {x : AV} {v : Value}, VR I ι w x v → VR I ι'' w (x.shift k) v
  | .d _, _, h => by cases h with | d h => exact .d h
  | .ptr _ _, _, h => by cases h with | ptr h => exact .ptr (hk _ _ h)
  | .sl _ _ _ _ _, _, h => by
    cases h with
    | sl h a b c d => exact .sl (hk _ _ h) a b c d
    | sl0 => exact .sl0
  | .fn f caps, _, h => by
    cases h with
    | fn hl hv =>
      have := shift_vrs_ind hk (xs := caps) ⟨hl, hv⟩
      exact .fn this.len this.at_
  | .yield _, _, h => by cases h with | yield h => exact .yield (hk _ _ h)
  | .map _, _, h => by cases h with | map h => exact .map (hk _ _ h)
  | .agg cs, _, h => by
    cases h with
    | agg hl hv => exact VR.agg' (shift_vrs_ind hk (xs := cs) ⟨hl, hv⟩)
  | .tup cs, _, h => by
    cases h with
    | tup hl hv => exact VR.tup' (shift_vrs_ind hk (xs := cs) ⟨hl, hv⟩)
theorem shift_vrs_ind {I : Imm} {ι ι'' : Inj} {w : World} {k : Nat} (hk : ∀ id r, ι id = some r → ι'' (id + k) = some r) : ∀ {xs : List AV} {vs : List Value}, VRs I ι w xs vs → VRs I ι'' w (AV.shiftL k xs) vs
  | [], vs, h => by rw [h.unnil]; exact VRs.nil
  | x :: xs, vs, h => by
    obtain ⟨v, vs', e, h1, h2⟩ := h.uncons
    subst e
    exact (shift_vrs_ind hk h2).cons (shift_vr_ind hk h1)
end

theorem shift_tr {I : Imm} {ι ι'' : Inj} {w : World} {k : Nat} (hk : ∀ id r, ι id = some r → ι'' (id + k) = some r) {t : Tm} {tm : List Value} (h : TR I ι w t tm) : TR I ι'' w (T.map (AV.shift k) t) tm :=
  ⟨fun i => by rw [T.get_map, Option.isSome_map]; exact h.len i, fun i x v h1 h2 => by
    rw [T.get_map] at h1
    cases hg : T.get t i with
    | none => rw [hg] at h1; cases h1
    | some y => rw [hg] at h1; cases h1; exact shift_vr_ind hk (h.at_ i y v hg h2)⟩
end Go.Ab
namespace Go.Ab

theorem shiftL_map (k : Nat) (cs : List AV) : AV.shiftL k cs = cs.map (AV.shift k) := by
  induction cs with
  | nil => rfl
  | cons c cs ih => simp only [AV.shiftL, List.map_cons, ih]

theorem InR_shift {r : Nat × Nat × Nat} {B : Blk} {k b o : Nat} : InR r (B.shift k) b o ↔ InR r B b o := by cases B <;> exact Iff.rfl

theorem graftFrom_spec (k : Nat) (H1 : Heap) : ∀ (n i : Nat) (H : Heap), H.WF → (Heap.graftFrom k H1 n i H).WF ∧ (Heap.graftFrom k H1 n i H).n = H.n + n ∧
    ∀ b, (Heap.graftFrom k H1 n i H).get b = if b < H.n then H.get b else if b < H.n + n then (H1.get (i + (b - H.n))).shift k else .dead := by
  intro n
  induction n with
  | zero =>
    intro i H wf
    refine ⟨wf, rfl, fun b => ?_⟩
    show H.get b = _
    by_cases h : b < H.n
    · rw [if_pos h]
    · rw [if_neg h, if_neg (by omega), Heap.get_ge (by omega)]
  | succ n ih =>
    intro i H wf
    unfold Heap.graftFrom
    obtain ⟨a, b, c⟩ := ih (Nat.succ i) (H.push ((H1.get i).shift k)) (Heap.wf_push wf)
    rw [Heap.n_push] at b c
    refine ⟨a, by omega, fun x => ?_⟩
    rw [c x]
    by_cases h1 : x < H.n
    · rw [if_pos (by omega), if_pos h1, Heap.get_push_old wf h1]
    · rw [if_neg h1]
      by_cases h2 : x = H.n
      · subst h2
        rw [if_pos (by omega), if_pos (by omega), Heap.get_push_same wf, Nat.sub_self, Nat.add_zero]
      · rw [if_neg (by omega)]
        by_cases h3 : x < H.n + (n + 1)
        · rw [if_pos (by omega), if_pos h3]
          congr 2; omega
        · rw [if_neg (by omega), if_neg h3]

theorem n_graft {H H1 : Heap} (wf : H.WF) : (H.graft H1).n = H.n + H1.n := (graftFrom_spec _ _ _ _ _ wf).2.1
theorem wf_graft {H H1 : Heap} (wf : H.WF) : (H.graft H1).WF := (graftFrom_spec _ _ _ _ _ wf).1
theorem get_graft_old {H H1 : Heap} (wf : H.WF) {id : Nat} (h : id < H.n) : (H.graft H1).get id = H.get id := by
  have := (graftFrom_spec H.n H1 H1.n 0 H wf).2.2 id
  rw [if_pos h] at this; exact this
theorem get_graft_new {H H1 : Heap} (wf : H.WF) {id : Nat} : (H.graft H1).get (id + H.n) = (H1.get id).shift H.n := by
  have := (graftFrom_spec H.n H1 H1.n 0 H wf).2.2 (id + H.n)
  rw [if_neg (by omega)] at this
  unfold Heap.graft
  rw [this]
  by_cases h : id < H1.n
  · rw [if_pos (by omega)]; congr 2; omega
  · rw [if_neg (by omega), Heap.get_ge (by omega)]; rfl

def graftInj (ι ι1 : Inj) (n : Nat) : Inj := fun id => if id < n then ι id else ι1 (id - n)

theorem vrs_map_shift {I : Imm} {ι ι'' : Inj} {w : World} {k : Nat} (hk : ∀ id r, ι id = some r → ι'' (id + k) = some r) {xs : List AV} {vs : List Value} (h : VRs I ι w xs vs) : VRs I ι'' w (xs.map (AV.shift k)) vs :=
  ⟨by simp [h.len], fun i x v h1 h2 => by
    simp only [List.getElem?_map] at h1
    cases hx : xs[i]? with
    | none => rw [hx] at h1; cases h1
    | some y => rw [hx] at h1; cases h1; exact shift_vr_ind hk (h.at_ i y v hx h2)⟩

/-- The callee's memory behind the caller's. -/
theorem graftDone {I I' : Imm} {ι ι' : Inj} {H H1 : Heap} {w w' : World} (hr : RelH I ι H w) (hr' : RelH I' ι' H1 w') (hx : Ext I noInj .empty w I' ι' H1 w') :
    RelH I' (graftInj ι ι' H.n) (H.graft H1) w' ∧ Ext I ι H w I' (graftInj ι ι' H.n) (H.graft H1) w' ∧ (∀ id, id < H.n → graftInj ι ι' H.n id = ι id) ∧ (∀ x v, VR I' ι' w' x v → VR I' (graftInj ι ι' H.n) w' (x.shift H.n) v) := by
  obtain ⟨c1, c2⟩ := calleeDone hr hr' hx
  have hno : ∀ b o, ¬ Own noInj .empty b o := fun b o h => own_none h
  have hold : ∀ id, id < H.n → graftInj ι ι' H.n id = ι id := fun id h => by unfold graftInj; rw [if_pos h]
  have hnew : ∀ id, graftInj ι ι' H.n (id + H.n) = ι' id := fun id => by unfold graftInj; rw [if_neg (by omega), Nat.add_sub_cancel]
  have hk : ∀ id r, ι' id = some r → graftInj ι ι' H.n (id + H.n) = some r := fun id r h => by rw [hnew]; exact h
  have hmono : ∀ id r, ι id = some r → graftInj ι ι' H.n id = some r := fun id r h => by rw [hold id (hr.lt id r h).1]; exact h
  have gold : ∀ id, id < H.n → (H.graft H1).get id = H.get id := fun id h => get_graft_old hr.wf h
  have gnew : ∀ id, (H.graft H1).get (id + H.n) = (H1.get id).shift H.n := fun id => get_graft_new hr.wf
  have hn : (H.graft H1).n = H.n + H1.n := n_graft hr.wf
  have hownlt : ∀ j s, ι j = some s → ∀ b o, InR s (H.get j) b o → b < w.heap.size := fun j s hj b o hin => inR_lt hr hj hin
  have cases_ : ∀ id, id < H.n ∨ ∃ j, id = j + H.n := fun id => by
    by_cases h : id < H.n
    · exact .inl h
    · exact .inr ⟨id - H.n, by omega⟩
  have hown : ∀ b o, Own (graftInj ι ι' H.n) (H.graft H1) b o → Own ι H b o ∨ Own ι' H1 b o := by
    rintro b o ⟨id, r, hi, hin⟩
    rcases cases_ id with h | ⟨j, rfl⟩
    · rw [hold id h] at hi; rw [gold id h] at hin; exact .inl ⟨id, r, hi, hin⟩
    · rw [hnew] at hi; rw [gnew] at hin; exact .inr ⟨j, r, hi, InR_shift.1 hin⟩
  have cross : ∀ i j ri rj, ι i = some ri → ι' j = some rj → ∀ b o, InR ri (H.get i) b o → InR rj (H1.get j) b o → False := by
    intro i j ri rj hi hj b o h1 h2
    exact hno b o (hx.own b o (hownlt i ri hi b o h1) ⟨j, rj, hj, h2⟩)
  refine ⟨⟨?_, fun id r hi => ?_, fun id hi => ?_, fun id r hi => ?_, fun i j ri rj hij hi hj b o h1 h2 => ?_, fun b o hi => ⟨(hr'.imm b o hi).1, fun h => ?_⟩⟩,
    ⟨hx.os, hx.output, hx.tape, hx.drawn, hx.size, fun b c e fr hb => let ⟨c', a, b', d⟩ := hx.cells b c e fr hb; ⟨c', a, b', fun o _ => d o (hno _ o)⟩, fun b o hb hc _ => hx.objs b o hb hc (hno _ _), hx.loops, hmono, by rw [hn]; omega, c2.immMono, c2.immOld, fun b o hlt h => ?_⟩, hold, fun x v h => shift_vr_ind hk h⟩
  · exact wf_graft hr.wf
  · rcases cases_ id with h | ⟨j, rfl⟩
    · rw [hold id h] at hi; exact ⟨by rw [hn]; omega, Nat.lt_of_lt_of_le (hr.lt id r hi).2 hx.size⟩
    · rw [hnew] at hi; exact ⟨by rw [hn]; have := (hr'.lt j r hi).1; omega, (hr'.lt j r hi).2⟩
  · rcases cases_ id with h | ⟨j, rfl⟩
    · rw [gold id h] at hi; rw [hold id h]; exact hr.live id hi
    · rw [gnew] at hi; rw [hnew]
      exact hr'.live j (fun e => hi (by rw [e]; rfl))
  · rcases cases_ id with h | ⟨j, rfl⟩
    · rw [hold id h] at hi; rw [gold id h]
      exact (c1.blk id r hi).mono (fun _ _ h => h) (fun _ _ _ _ h => h) hmono (fun b c e fr hb => ⟨c, hb, fun _ _ => rfl⟩) (fun _ _ h _ _ => h)
    · rw [hnew] at hi; rw [gnew]
      have hb := hr'.blk j r hi
      cases hB : H1.get j with
      | dead => trivial
      | cells m cs =>
        rw [hB] at hb
        obtain ⟨h0, h1, hI, h2, h3, h4⟩ := hb
        refine ⟨by rw [shiftL_map, List.length_map]; exact h0, by rw [shiftL_map, List.length_map]; exact h1, hI, h2, h3, fun i x hxx => ?_⟩
        rw [shiftL_map, List.getElem?_map] at hxx
        cases hy : cs[i]? with
        | none => rw [hy] at hxx; cases hxx
        | some y => rw [hy] at hxx; cases hxx; obtain ⟨v, a, c⟩ := h4 i y hy; exact ⟨v, a, shift_vr_ind hk c⟩
      | map es =>
        rw [hB] at hb
        obtain ⟨ents, clock, h1, h2, h3, h4⟩ := hb
        refine ⟨ents, clock, h1, ?_, ?_, by rw [List.length_map]; exact h4⟩
        · have := vrs_map_shift hk h2
          rw [List.map_map] at this ⊢; exact this
        · have := vrs_map_shift hk h3
          rw [List.map_map] at this ⊢; exact this
      | loop f t p a b s jj =>
        rw [hB] at hb
        obtain ⟨l, h1, h2, h3, h4, h5, h6, h7, h8, h9⟩ := hb
        exact ⟨l, h1, h2, h3, h4, h5, h6, h7, shift_tr hk h8, h9⟩
      | iter s p => rw [hB] at hb; exact hb
      | miter mb s l q =>
        rw [hB] at hb
        obtain ⟨⟨r', h1, h2⟩, h3⟩ := hb
        exact ⟨⟨r', hk _ _ h1, h2⟩, h3⟩
  · rcases cases_ i with hi' | ⟨i', rfl⟩
    · rw [hold i hi'] at hi; rw [gold i hi'] at h1
      rcases cases_ j with hj' | ⟨j', rfl⟩
      · rw [hold j hj'] at hj; rw [gold j hj'] at h2; exact hr.sep i j ri rj hij hi hj b o h1 h2
      · rw [hnew] at hj; rw [gnew] at h2; exact cross i j' ri rj hi hj b o h1 (InR_shift.1 h2)
    · rw [hnew] at hi; rw [gnew] at h1
      rcases cases_ j with hj' | ⟨j', rfl⟩
      · rw [hold j hj'] at hj; rw [gold j hj'] at h2; exact cross j i' rj ri hj hi b o h2 (InR_shift.1 h1)
      · rw [hnew] at hj; rw [gnew] at h2; exact hr'.sep i' j' ri rj (by omega) hi hj b o (InR_shift.1 h1) (InR_shift.1 h2)
  · rcases hown b o h with h | h
    · exact (c1.imm b o hi).2 h
    · exact (hr'.imm b o hi).2 h
  · rcases hown b o h with h | h
    · exact h
    · exact absurd (hx.own b o hlt h) (hno b o)

-- ---------------------------------------------------------------- what is to be shown of code
def MarkOK (ι : Inj) (H : Heap) (w : World) (D : Nat) : Prop := w.heap[D]? = some (Obj.deferred (some [])) ∧ ¬ Own ι H D 0

def marksOf (ds : List Nat) : List Deferred := ds.map fun D => { target := .collected D, args := #[] }

def Arr (P : Program) (m : Machine) (b : Frame) (k : List Item) (cs : List Frame) (e : Ex) (a : Act) (w' : World) : Prop :=
  match e with
  | .normal => Steps P m (lone (b.atR a k) cs w')
  | .exit id => ∃ k2, exitTo id k2 = exitTo id k ∧ Steps P m (lone (b.atR a (.code (.exit id) :: k2)) cs w')
  | .ret => ∃ k2, Steps P m (lone (b.atR a (.code .ret :: k2)) cs w')

def CodeSim (P : Program) (E : Env) (f : FuncId) (c : Code) (st : St) (e : Ex) (st' : St) : Prop :=
  ∀ (ro : Option Nat) I ι w tm, RelH I ι st.H w → TR I ι w st.t tm → GlobOK E I w → (∀ l, ro = some l → ∃ r, w.heap[l]? = some (Obj.loop r)) →
    ∃ I' ι' w' tm' ds, RelH I' ι' st'.H w' ∧ TR I' ι' w' st'.t tm' ∧ Ext I ι st.H w I' ι' st'.H w' ∧ (∀ id, id < st.H.n → ι' id = ι id) ∧ (∀ l, ro = some l → ds = []) ∧ ds.Nodup ∧
      (∀ D ∈ ds, w.heap.size ≤ D ∧ MarkOK ι' st'.H w' D) ∧
      ∀ (b : Frame) k cs dfs, b.fn = f → b.roundOf = ro → b.kind = .normal → Arr P (lone (b.atR ⟨tm.toArray, dfs⟩ (.code c :: k)) cs w) b k cs e ⟨tm'.toArray, marksOf ds ++ dfs⟩ w'

structure RecOK (P : Program) (E : Env) (r : Rec) : Prop where
  call : ∀ f args H v H', r.call f args H = some (v, H') → CallSim P E f args H v H'
  code : ∀ f c st e st', r.code f c st = some (e, st') → Code.drawOK c = true → CodeSim P E f c st e st'

def HooksOK (P : Program) (E : Env) : Prop := (∀ f h, E.hook f = some h → HookOK P E f h) ∧ ∀ f h, E.shook f = some h → SHookOK P E f h

theorem arr_trans {P : Program} {m m1 : Machine} {b : Frame} {k : List Item} {cs : List Frame} {e : Ex} {a : Act} {w' : World} (h : Steps P m m1) (h' : Arr P m1 b k cs e a w') : Arr P m b k cs e a w' := by
  cases e with
  | normal => exact h.trans h'
  | exit id => obtain ⟨k2, h1, h2⟩ := h'; exact ⟨k2, h1, h.trans h2⟩
  | ret => obtain ⟨k2, h2⟩ := h'; exact ⟨k2, h.trans h2⟩

def RoundRun (P : Program) (l : Nat) (f : FuncId) (tmps : Array Value) (asg body : Code) (w : World) (v : Value) (w' : World) : Prop :=
  ∀ c cs, Steps P (lone (Frame.round l f tmps asg body .normal) (c :: cs) w) (lone (c.finish v) cs w')

/-- What an operation, a call too, comes to. -/
def Acts (P : Program) (s : Sem Next) (w : World) (v : Value) (w' : World) : Prop :=
  Does P s w w' v ∨ (∃ f args, s.run P w = .ok (.enter f args) w ∧ CallRun P f args.toList w v w') ∨
  (∃ l f tmps a b, s.run P w = .ok (.round l f tmps a b) w ∧ RoundRun P l f tmps a b w v w')

section
variable {P : Program} {E : Env} (ok : EnvOK P E) (hk : HooksOK P E) {r : Rec} (rok : RecOK P E r) {I : Imm} {ι : Inj} {H : Heap} {w : World}
include hk rok

/-- A call in isolation. -/
theorem alone_sim (hg : GlobOK E I w) (h0 : RelH I noInj .empty w) {f : FuncId} {args : List AV} {vs : List Value} (hs : VRs I noInj w args vs) {v : AV} {H1 : Heap} (h : alone E r f args = some (v, H1)) :
    ∃ I' ι' w' vm, RelH I' ι' H1 w' ∧ VR I' ι' w' v vm ∧ Ext I noInj .empty w I' ι' H1 w' ∧ FnDoes P f vs w vm w' := by
  unfold alone at h
  split at h
  case h_2 => cases h
  rename_i v1 H2 hc
  obtain ⟨I', ι', w', vm, a1, a2, a3, _, a5, a6⟩ := rok.call f args .empty v1 H2 hc I noInj w vs h0 hs hg
  split at h
  · cases h; exact ⟨I', ι', w', vm, a1, a2, a3, .inl ⟨a5, a6⟩⟩
  · split at h
    · rename_i v2 hfz
      cases h
      obtain ⟨I2, H3, b1, b2, b3⟩ := freeze_sim a1 hfz a2
      exact ⟨I2, noInj, w', vm, b1.alone, b3, (a3.trans b2).forget, .inl ⟨a5, a6⟩⟩
    · cases h; exact ⟨I', ι', w', vm, a1, a2, a3, .inl ⟨a5, a6⟩⟩

theorem aloneH_sim (hg : GlobOK E I w) (h0 : RelH I noInj .empty w) {f : FuncId} {args : List AV} {vs : List Value} (hp : allPure args = true) (hs : VRs I noInj w args vs) {v : AV} {H1 : Heap} (h : aloneH E r f args = some (v, H1)) :
    ∃ I' ι' w' vm, RelH I' ι' H1 w' ∧ VR I' ι' w' v vm ∧ Ext I noInj .empty w I' ι' H1 w' ∧ FnDoes P f vs w vm w' := by
  unfold aloneH at h
  split at h
  · rename_i hh hhook
    split at h
    · rename_i v2 hv
      cases h
      obtain ⟨I', w', vm, a1, a2, a3, a4⟩ := hk.1 f hh hhook args v hv hp I w vs h0 hs hg
      exact ⟨I', noInj, w', vm, a1, a2, a3, a4⟩
    · exact alone_sim hk rok hg h0 hs h
  · exact alone_sim hk rok hg h0 hs h

omit hk rok in
/-- No memory is left of the callee. -/
theorem vr_left {I' : Imm} {ι' : Inj} {H1 : Heap} {w' : World} (hr : RelH I' ι' H1 w') (hn : H1.n = 0) {v : AV} {vm : Value} (hv : VR I' ι' w' v vm) : VR I' ι w' v vm :=
  hv.mono (fun _ _ h => h) (fun _ _ _ _ h => h) (fun b r h => by have := (hr.lt b r h).1; omega)

theorem callA_sim (hr : RelH I ι H w) (hg : GlobOK E I w) {f : FuncId} {args : List AV} {vs : List Value} (hs : VRs I ι w args vs) {A : Action} (h : callA E r f args = some A) {rid : Option Nat} {v : AV} {H' : Heap} (hex : A.exec rid H = some (v, H')) :
    Post I ι H w rid H' v fun w' vm => FnDoes P f vs w vm w' := by
  unfold callA at h
  split at h
  · rename_i hp
    split at h
    case h_2 => cases h
    rename_i v1 H1 hal
    obtain ⟨I', ι', w', vm, a1, a2, a3, a4⟩ := aloneH_sim hk rok hg hr.alone hp (vrs_pure hp hs) hal
    cases hn : Nat.beq H1.n 0 with
    | true =>
      rw [hn] at h; cases h; cases hex
      obtain ⟨c1, c2⟩ := calleeDone hr a1 a3
      exact ⟨I', ι, w', vm, c1, vr_left a1 (of_nbeq hn) a2, c2, fun _ _ _ => rfl, a4⟩
    | false =>
      rw [hn] at h; cases h; cases hex
      obtain ⟨g1, g2, g3, g4⟩ := graftDone hr a1 a3
      exact ⟨_, _, w', vm, g1, g4 _ _ a2, g2, fun id hlt _ => g3 id hlt, a4⟩
  · split at h
    · have body : r.call f args H = some (v, H') → Post I ι H w rid H' v fun w' vm => FnDoes P f vs w vm w' := by
        intro hex
        obtain ⟨I', ι', w', vm, a1, a2, a3, a4, a5, a6⟩ := rok.call f args H v H' hex I ι w vs hr hs hg
        exact ⟨I', ι', w', vm, a1, a2, a3, fun id hlt _ => a4 id hlt, .inl ⟨a5, a6⟩⟩
      split at h
      · rename_i hh hhook
        cases h
        simp only [Action.exec] at hex
        split at hex
        · rename_i x hx
          cases hex
          obtain ⟨I', ι', w', vm, a1, a2, a3, a4, a5⟩ := hk.2 f hh hhook args H v H' hx I ι w vs hr hs hg
          exact ⟨I', ι', w', vm, a1, a2, a3, fun id hlt _ => a4 id hlt, a5⟩
        · exact body hex
      · cases h; exact body hex
    · cases h
      simp only [Action.exec] at hex
      split at hex
      case h_2 => cases hex
      rename_i as_ H2 hice
      obtain ⟨I2, b1, b2, b3, b4⟩ := iceVals_sim args hr hice hs
      split at hex
      case h_2 => cases hex
      rename_i v1 H1 hal
      obtain ⟨I', ι', w', vm, a1, a2, a3, a4⟩ := aloneH_sim hk rok (hg.ext b2 hr) b1.alone b4 (vrs_pure b4 b3) hal
      have simple : H1.n = 0 → v1 = v → H2 = H' → Post I ι H w rid H' v fun w' vm => FnDoes P f vs w vm w' := by
        intro hn e1 e2
        subst e1 e2
        obtain ⟨c1, c2⟩ := calleeDone b1 a1 a3
        exact ⟨I', ι, w', vm, c1, vr_left a1 hn a2, b2.trans c2, fun _ _ _ => rfl, a4⟩
      split at hex
      · cases hn : Nat.beq H1.n 0 with
        | true => rw [hn] at hex; cases hex; exact simple (of_nbeq hn) rfl rfl
        | false => rw [hn] at hex; cases hex
      · cases hn : Nat.beq H1.n 0 with
        | true => rw [hn] at hex; cases hex; exact simple (of_nbeq hn) rfl rfl
        | false =>
          rw [hn] at hex; cases hex
          obtain ⟨g1, g2, g3, g4⟩ := graftDone b1 a1 a3
          exact ⟨_, _, w', vm, g1, g4 _ _ a2, b2.trans g2, fun id hlt _ => g3 id (Nat.lt_of_lt_of_le hlt b2.n), a4⟩
end
end Go.Ab
