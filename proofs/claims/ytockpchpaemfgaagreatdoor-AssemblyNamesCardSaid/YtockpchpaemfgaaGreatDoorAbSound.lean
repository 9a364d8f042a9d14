/- The evaluator is sound: what it computes is what the model's machine comes to, whatever the tape. Code and calls: the evaluator with any fuel is sound. The evaluator, with whatever fuel, says what the model's machine comes to. -/
import Derived.Test.YtockpchpaemfgaaGreatDoorAbDraw2
set_option linter.all false
namespace Go.Ab

theorem Ext.tr {I I' : Imm} {ι ι' : Inj} {H H' : Heap} {w w' : World} (h : Ext I ι H w I' ι' H' w') (hr : RelH I ι H w) {t : Tm} {tm : List Value} (hx : TR I ι w t tm) : TR I' ι' w' t tm :=
  hx.mono h.immMono (h.immCell hr) h.inj

section
variable {P : Program} {E : Env} (ok : EnvOK P E) (hk : HooksOK P E) {r : Rec} (rok : RecOK P E r)
include ok hk rok

/-- One operation that is carried out, in a frame. -/
theorem op_sim {I : Imm} {ι : Inj} {H H' : Heap} {w : World} {t : Tm} {tm : List Value} (hr : RelH I ι H w) (ht : TR I ι w t tm) (hg : GlobOK E I w) {ops : Array Oper} {i : Nat} {o : Oper} (ho : ops[i]? = some o)
    (hw : wantedA ops.toList t o = true) {A : Action} (hA : act E r (evalO t) o.op = some A) {rid : Option Nat} (hrid : ∀ id, rid = some id → ι id = none) {v : AV} (hex : A.exec rid H = some (v, H')) :
    ∃ I' ι' w' tm', RelH I' ι' H' w' ∧ TR I' ι' w' (put t o.dst v) tm' ∧ Ext I ι H w I' ι' H' w' ∧ (∀ id, id < H.n → rid ≠ some id → ι' id = ι id) ∧
      ∀ (b : Frame) k cs dfs rest, b.kind = .normal → Steps P (lone (b.atR ⟨tm.toArray, dfs⟩ (.inRegion ops (i :: rest) :: k)) cs w) (lone (b.atR ⟨tm'.toArray, dfs⟩ (.inRegion ops rest :: k)) cs w') := by
  obtain ⟨I', ι', w', vm, a1, a2, a3, a4, a5⟩ := act_sim ok hk rok hr hg (same_eval ht) (fun _ => rfl) hA hrid hex
  refine ⟨I', ι', w', putM tm o.dst vm, a1, put_tr (a3.tr hr ht) a2 o.dst, a3, a4, fun b k cs dfs rest hb => ?_⟩
  have := opRun (act_nodefer hA) a5 hb (dfs := dfs) (k := k) (cs := cs) (rest := rest) ho (by rw [← wanted_eq ht o]; exact hw)
  rw [put_toArray] at this
  exact this

omit ok hk rok in
/-- One that is not. -/
theorem skip_sim {I : Imm} {ι : Inj} {w : World} {t : Tm} {tm : List Value} (ht : TR I ι w t tm) {ops : Array Oper} {i : Nat} {o : Oper} (ho : ops[i]? = some o) (hw : wantedA ops.toList t o = false)
    (b : Frame) (k : List Item) (cs : List Frame) (dfs : List Deferred) (rest : List Nat) : Steps P (lone (b.atR ⟨tm.toArray, dfs⟩ (.inRegion ops (i :: rest) :: k)) cs w) (lone (b.atR ⟨(putM tm o.dst undef).toArray, dfs⟩ (.inRegion ops rest :: k)) cs w) := by
  have hs := stepR_op_skip (P := P) (b := b) (a := ⟨tm.toArray, dfs⟩) (k := k) (cs := cs) (w := w) (ops := ops) (i := i) (rest := rest) (by
    rw [ho]; simp only [Option.map_some, Option.getD_some]; rw [← wanted_eq ht o]; exact hw)
  rw [ho] at hs
  simp only [Option.bind_some, put_toArray] at hs
  exact .one hs

theorem evOps_sim {ops : Array Oper} : ∀ (rest : List Oper) (i : Nat) (st st' : St), ops.toList.drop i = rest → evOps E r ops.toList rest st = some st' → ∀ I ι w tm, RelH I ι st.H w → TR I ι w st.t tm → GlobOK E I w →
    ∃ I' ι' w' tm', RelH I' ι' st'.H w' ∧ TR I' ι' w' st'.t tm' ∧ Ext I ι st.H w I' ι' st'.H w' ∧ (∀ id, id < st.H.n → ι' id = ι id) ∧
      ∀ (b : Frame) k cs dfs, b.kind = .normal → Steps P (lone (b.atR ⟨tm.toArray, dfs⟩ (.inRegion ops (List.range' i rest.length) :: k)) cs w) (lone (b.atR ⟨tm'.toArray, dfs⟩ (.inRegion ops [] :: k)) cs w') := by
  intro rest
  induction rest with
  | nil =>
    intro i st st' _ h I ι w tm hr ht hg
    simp only [evOps, Option.some.injEq] at h; subst h
    exact ⟨I, ι, w, tm, hr, ht, Ext.refl I ι st.H w, fun _ _ => rfl, fun b k cs dfs _ => Steps.refl _ _⟩
  | cons o rest ih =>
    intro i st st' hd h I ι w tm hr ht hg
    have ho : ops[i]? = some o := by
      have := congrArg (·[0]?) hd
      simpa using this
    have hd' : ops.toList.drop (i + 1) = rest := by rw [← List.drop_drop, hd]; rfl
    unfold evOps at h
    split at h
    · rename_i st1 he
      unfold evOp at he
      split at he
      · rename_i hw
        split at he
        · rename_i A hA
          split at he
          · rename_i v H hex
            cases he
            obtain ⟨I1, ι1, w1, tm1, a1, a2, a3, a4, a5⟩ := op_sim ok hk rok hr ht hg ho hw hA (rid := none) (by simp) hex
            obtain ⟨I2, ι2, w2, tm2, b1, b2, b3, b4, b5⟩ := ih (i + 1) _ st' hd' h I1 ι1 w1 tm1 a1 a2 (hg.ext a3 hr)
            refine ⟨I2, ι2, w2, tm2, b1, b2, a3.trans b3, fun id hlt => by rw [b4 id (Nat.lt_of_lt_of_le hlt a3.n), a4 id hlt (by simp)], fun b k cs dfs hb => ?_⟩
            rw [List.length_cons, List.range'_succ]
            exact (a5 b k cs dfs _ hb).trans (b5 b k cs dfs hb)
          · cases he
        · cases he
      · rename_i hw
        cases he
        obtain ⟨I2, ι2, w2, tm2, b1, b2, b3, b4, b5⟩ := ih (i + 1) _ st' hd' h I ι w (putM tm o.dst undef) hr (put_tr ht VR.undef o.dst) hg
        refine ⟨I2, ι2, w2, tm2, b1, b2, b3, b4, fun b k cs dfs hb => ?_⟩
        rw [List.length_cons, List.range'_succ]
        exact (skip_sim ht ho hw b k cs dfs _).trans (b5 b k cs dfs hb)
    · cases h

theorem runD_sim {ops : Array Oper} {base : Nat} : ∀ (l : List Nat) (st R : St) (log : List Log), runD E r ops.toList base l st = some (R, log) → l.Nodup → ∀ I ι w tm, RelH I ι st.H w → TR I ι w st.t tm → GlobOK E I w →
    (∀ j ∈ l, ι (base + j) = none ∧ base + j < st.H.n) →
    ∃ I' ι' w' tm', RelH I' ι' R.H w' ∧ TR I' ι' w' R.t tm' ∧ Ext I ι st.H w I' ι' R.H w' ∧ (∀ id, id < st.H.n → (∀ j ∈ l, id ≠ base + j) → ι' id = ι id) ∧
      ∀ (b : Frame) k cs dfs, b.kind = .normal → Steps P (lone (b.atR ⟨tm.toArray, dfs⟩ (.inRegion ops l :: k)) cs w) (lone (b.atR ⟨tm'.toArray, dfs⟩ (.inRegion ops [] :: k)) cs w') := by
  intro l
  induction l with
  | nil =>
    intro st R log h _ I ι w tm hr ht hg _
    simp only [runD, Option.some.injEq, Prod.mk.injEq] at h
    obtain ⟨rfl, _⟩ := h
    exact ⟨I, ι, w, tm, hr, ht, Ext.refl I ι st.H w, fun _ _ _ => rfl, fun b k cs dfs _ => Steps.refl _ _⟩
  | cons i l ih =>
    intro st R log h hnd I ι w tm hr ht hg hres
    obtain ⟨o, st1, a, log2, ho, he, hrr, _⟩ := runD_cons h
    have ho' : ops[i]? = some o := by simpa using ho
    obtain ⟨hin, hnd'⟩ := List.nodup_cons.1 hnd
    rcases evOpD_cases he with ⟨hw, A, v, H, rfl, hA, hex, rfl⟩ | ⟨hw, rfl, rfl⟩
    · obtain ⟨I1, ι1, w1, tm1, a1, a2, a3, a4, a5⟩ := op_sim ok hk rok hr ht hg ho' hw hA (rid := some (base + i)) (fun id e => by cases e; exact (hres i (.head _)).1) hex
      obtain ⟨I2, ι2, w2, tm2, b1, b2, b3, b4, b5⟩ := ih _ R log2 hrr hnd' I1 ι1 w1 tm1 a1 a2 (hg.ext a3 hr) (fun j hj => by
        have hji : j ≠ i := fun e => by subst e; exact hin hj
        refine ⟨?_, Nat.lt_of_lt_of_le (hres j (.tail _ hj)).2 a3.n⟩
        rw [a4 _ (hres j (.tail _ hj)).2 (fun e => hji (by have := Option.some.inj e; omega))]
        exact (hres j (.tail _ hj)).1)
      refine ⟨I2, ι2, w2, tm2, b1, b2, a3.trans b3, fun id hlt hne => ?_, fun b k cs dfs hb => (a5 b k cs dfs _ hb).trans (b5 b k cs dfs hb)⟩
      rw [b4 id (Nat.lt_of_lt_of_le hlt a3.n) (fun j hj => hne j (.tail _ hj)), a4 id hlt (fun e => hne i (.head _) (Option.some.inj e).symm)]
    · obtain ⟨I2, ι2, w2, tm2, b1, b2, b3, b4, b5⟩ := ih _ R log2 hrr hnd' I ι w (putM tm o.dst undef) hr (put_tr ht VR.undef o.dst) hg (fun j hj => hres j (.tail _ hj))
      exact ⟨I2, ι2, w2, tm2, b1, b2, b3, fun id hlt hne => b4 id hlt (fun j hj => hne j (.tail _ hj)), fun b k cs dfs hb => (skip_sim ht ho' hw b k cs dfs _).trans (b5 b k cs dfs hb)⟩
end

-- ---------------------------------------------------------------- marks
theorem MarkOK.ext {I I' : Imm} {ι ι' : Inj} {H H' : Heap} {w w' : World} {D : Nat} (h : MarkOK ι H w D) (hx : Ext I ι H w I' ι' H' w') : MarkOK ι' H' w' D :=
  ⟨hx.objs D _ h.1 (by simp) h.2, fun hown => h.2 (hx.own D 0 (Array.getElem?_eq_some_iff.1 h.1).1 hown)⟩

theorem marksOf_append (xs ys : List Nat) : marksOf (xs ++ ys) = marksOf xs ++ marksOf ys := by simp [marksOf]

/-- Two pieces of code, one behind the other: their marks. -/
theorem marks_join {I I' : Imm} {ι ι' : Inj} {H H' : Heap} {w w1 w2 : World} {I0 : Imm} {ι0 : Inj} {H0 : Heap} {ds1 ds2 : List Nat} (hx0 : w.heap.size ≤ w1.heap.size) (hx : Ext I ι H w1 I' ι' H' w2)
    (n1 : ds1.Nodup) (n2 : ds2.Nodup) (h1 : ∀ D ∈ ds1, w.heap.size ≤ D ∧ MarkOK ι H w1 D) (h2 : ∀ D ∈ ds2, w1.heap.size ≤ D ∧ MarkOK ι' H' w2 D) :
    (ds2 ++ ds1).Nodup ∧ ∀ D ∈ ds2 ++ ds1, w.heap.size ≤ D ∧ MarkOK ι' H' w2 D := by
  refine ⟨List.nodup_append.2 ⟨n2, n1, fun a ha b hb e => ?_⟩, fun D hD => ?_⟩
  · subst e
    have := (h2 a ha).1
    have := (Array.getElem?_eq_some_iff.1 (h1 a hb).2.1).1
    omega
  · rcases List.mem_append.1 hD with h | h
    · exact ⟨Nat.le_trans hx0 (h2 D h).1, (h2 D h).2⟩
    · exact ⟨(h1 D h).1, (h1 D h).2.ext hx⟩

theorem pushObj {I : Imm} {ι : Inj} {H : Heap} {w : World} (hr : RelH I ι H w) (o : Obj) : RelH I ι H (wpush w o) ∧ Ext I ι H w I ι H (wpush w o) := by
  refine ⟨⟨hr.wf, fun id r hi => ⟨(hr.lt id r hi).1, by have := (hr.lt id r hi).2; simp [wpush]; omega⟩, hr.live, fun id r hi => ?_, hr.sep, fun b o' hi => ⟨let ⟨v, hv⟩ := (hr.imm b o' hi).1; ⟨v, by rw [cell?_congr (wpush_old (cell?_lt hv))]; exact hv⟩, (hr.imm b o' hi).2⟩⟩,
    ⟨rfl, rfl, rfl, Nat.le_refl _, by simp [wpush], fun b c e fr hb => ⟨c, wpush_some hb, rfl, fun _ _ => rfl⟩, fun b o' hb _ _ => wpush_some hb, fun b l hb => ⟨l, wpush_some hb⟩, fun _ _ h => h, Nat.le_refl _, fun _ _ h => h, fun _ _ _ h => .inl h, fun _ _ _ h => h⟩⟩
  exact (hr.blk id r hi).mono (fun _ _ h => h) (fun b o' v _ hv => by rw [cell?_congr (wpush_old (cell?_lt hv))]; exact hv) (fun _ _ h => h)
    (fun b c e fr hb => ⟨c, wpush_some hb, fun _ _ => rfl⟩) (fun b o' hb _ _ => wpush_some hb)

/-- A block for deferred calls is shut. -/
theorem shutMark {I : Imm} {ι : Inj} {H : Heap} {w : World} (hr : RelH I ι H w) {D : Nat} (hm : MarkOK ι H w D) :
    RelH I ι H (wput w D (.deferred none)) ∧ (∀ y v, VR I ι w y v → VR I ι (wput w D (.deferred none)) y v) := by
  obtain ⟨h1, h2⟩ := hm
  have hcell : ∀ b o v, w.cell? ⟨b, o, none⟩ = some v → (wput w D (.deferred none)).cell? ⟨b, o, none⟩ = some v := fun b o v hv => by
    have hne : b ≠ D := fun e => by subst e; obtain ⟨c, e, fr, hh, _⟩ := cell?_eq.1 hv; rw [h1] at hh; cases hh
    rw [cell?_congr (wput_ne hne)]; exact hv
  refine ⟨⟨hr.wf, fun id r hi => ⟨(hr.lt id r hi).1, by rw [wput_size]; exact (hr.lt id r hi).2⟩, hr.live, fun id r hi => ?_, hr.sep, fun b o hi => ⟨let ⟨v, hv⟩ := (hr.imm b o hi).1; ⟨v, hcell _ _ _ hv⟩, (hr.imm b o hi).2⟩⟩, fun y v h => h.mono (fun _ _ h => h) (fun b o v _ hv => hcell b o v hv) (fun _ _ h => h)⟩
  refine (hr.blk id r hi).mono (fun _ _ h => h) (fun b o v _ hv => hcell b o v hv) (fun _ _ h => h) (fun b c e fr hb => ⟨c, ?_, fun _ _ => rfl⟩) (fun b o hb _ hin => ?_)
  · have hne : b ≠ D := fun e => by subst e; rw [h1] at hb; cases hb
    rw [wput_ne hne]; exact hb
  · have hne : b ≠ D := fun e => by subst e; exact h2 ⟨id, r, hi, hin⟩
    rw [wput_ne hne]; exact hb

theorem run_takeDeferred' {P : Program} {w : World} {b : Nat} {ds : List Deferred} (h : w.heap[b]? = some (.deferred (some ds))) :
    (Instr.takeDeferred b).run P w = .ok ds (wput w b (.deferred none)) := by
  simp [Instr.takeDeferred, Sem.run_bind, getObj, setObj, Sem.run, h, Result.andThen, wput]

theorem step_mark {P : Program} {fr : Frame} {cs : List Frame} {w w' : World} {D : Nat} {ds : List Deferred} (hm : fr.mode = .returning) (hd : fr.defers = { target := .collected D, args := #[] } :: ds) (hk : (Instr.takeDeferred D).run P w = .ok [] w') :
    step P (lone fr cs w) = .next (lone { fr with defers := ds } cs w') :=
  step_lone_go (by simp [stepG, unwind, hm, hd, Sem.runT_eq, hk])

/-- The marks are gone through as the function returns. -/
theorem unwindMarks {P : Program} {I : Imm} {ι : Inj} {H : Heap} {tm : List AV} : ∀ (ds : List Nat) (w0 : World) (I0 : Imm) (ι0 : Inj) (H0 : Heap) (w : World), RelH I ι H w → Ext I0 ι0 H0 w0 I ι H w → ds.Nodup → (∀ D ∈ ds, w0.heap.size ≤ D ∧ MarkOK ι H w D) →
    ∃ w', RelH I ι H w' ∧ Ext I0 ι0 H0 w0 I ι H w' ∧ (∀ y v, VR I ι w y v → VR I ι w' y v) ∧
      ∀ (fr : Frame) cs, fr.mode = .returning → fr.defers = marksOf ds → Steps P (lone fr cs w) (lone { fr with defers := [] } cs w') := by
  intro ds
  induction ds with
  | nil =>
    intro w0 I0 ι0 H0 w hr hx _ _
    refine ⟨w, hr, hx, fun _ _ h => h, fun fr cs _ hd => ?_⟩
    have : ({ fr with defers := [] } : Frame) = fr := by cases fr; simp_all [marksOf]
    rw [this]; exact Steps.refl _ _
  | cons D ds ih =>
    intro w0 I0 ι0 H0 w hr hx hnd hm
    obtain ⟨hD, hnd'⟩ := List.nodup_cons.1 hnd
    obtain ⟨hDs, hDm⟩ := hm D (.head _)
    obtain ⟨r1, v1⟩ := shutMark hr hDm
    have hx1 : Ext I0 ι0 H0 w0 I ι H (wput w D (.deferred none)) := by
      refine ⟨hx.os, hx.output, hx.tape, hx.drawn, by rw [wput_size]; exact hx.size, fun b c e fr hb => ?_, fun b o hb hc hn => ?_, fun b l hb => ?_, hx.inj, hx.n, hx.immMono, hx.immOld, hx.own⟩
      · have hlt := (Array.getElem?_eq_some_iff.1 hb).1
        rw [wput_ne (by omega)]; exact hx.cells b c e fr hb
      · have hlt := (Array.getElem?_eq_some_iff.1 hb).1
        rw [wput_ne (by omega)]; exact hx.objs b o hb hc hn
      · have hlt := (Array.getElem?_eq_some_iff.1 hb).1
        rw [wput_ne (by omega)]; exact hx.loops b l hb
    obtain ⟨w', a1, a2, a3, a4⟩ := ih w0 I0 ι0 H0 (wput w D (.deferred none)) r1 hx1 hnd' (fun D' hD' => by
      obtain ⟨b1, b2, b3⟩ := hm D' (.tail _ hD')
      exact ⟨b1, by rw [wput_ne (fun e => by subst e; exact hD hD')]; exact b2, b3⟩)
    refine ⟨w', a1, a2, fun y v h => a3 y v (v1 y v h), fun fr cs hmo hd => ?_⟩
    have hs := step_mark (P := P) (fr := fr) (cs := cs) (w := w) (D := D) (ds := marksOf ds) hmo (by rw [hd]; rfl) (run_takeDeferred' hDm.1)
    have := a4 { fr with defers := marksOf ds } cs hmo rfl
    exact .head hs this

section
variable {P : Program} {E : Env} (ok : EnvOK P E) (hk : HooksOK P E) {r : Rec} (rok : RecOK P E r)
include ok hk rok

omit ok hk rok in
theorem mapM_run {α β : Type} {f : α → Sem β} {w : World} : ∀ (l : List α) (us : List β), l.length = us.length → (∀ (i : Nat) x, l[i]? = some x → ∃ u, us[i]? = some u ∧ (f x).run P w = .ok u w) → (l.mapM f).run P w = .ok us w := by
  intro l
  induction l with
  | nil => intro us hl _; have : us = [] := by simpa using hl.symm
           subst this; simp
  | cons x l ih =>
    intro us hl h
    cases us with
    | nil => simp at hl
    | cons u us =>
      obtain ⟨u', h1, h2⟩ := h 0 x rfl
      simp only [List.getElem?_cons_zero, Option.some.injEq] at h1; subst h1
      rw [List.mapM_cons]
      simp only [Sem.run_bind, h2, Result.andThen_ok, ih us (by simpa using hl) (fun i y hy => by simpa using h (i + 1) y (by simpa using hy)), Sem.run_pure]

omit hk rok in
theorem result_run {I : Imm} {ι : Inj} {st : St} {w : World} {tm : List Value} (hr : RelH I ι st.H w) (ht : TR I ι w st.t tm) {x : ResultVar} {v : AV} (h : resultA E st x = some v) :
    ∃ vm, ((match x with | .tmp t => pure (tm.toArray.getD t undef) | .cell a t => do loadVar t (← asAddr (tm.toArray.getD a undef)) : Sem Value)).run P w = .ok vm w ∧ VR I ι w v vm := by
  cases x with
  | tmp t =>
    simp only [resultA, Option.some.injEq] at h; subst h
    refine ⟨_, rfl, ?_⟩
    have := ht.get t
    simpa using this
  | cell a t =>
    unfold resultA at h
    dsimp only at h ⊢
    split at h
    · rename_i ti b off hty hta
      split at h
      · rename_i cs hg
        split at h
        · rename_i ds hcut
          have hp2 := ht.get a
          rw [hta] at hp2
          generalize hp1 : (tm[a]?).getD undef = pv at hp2
          cases hp2 with
          | ptr hb =>
            rename_i k o e
            obtain ⟨ws, c1, c2⟩ := br_cut hr hb hg hcut
            obtain ⟨zv, h3, h4⟩ := ofCells_run (P := P) ok hty h (cut_spec hcut).2.2 c1 c2
            refine ⟨zv, ?_, h4⟩
            have hget : tm.toArray.getD a undef = .pointer (some ⟨k, o + off, none⟩) := by simpa using hp1
            rw [hget]
            simp only [asAddr, Sem.run_bind, Sem.run_pure, Result.andThen_ok, h3]
        · cases h
      · cases h
    · cases h

omit ok hk rok in
theorem resultsL_some {st : St} : ∀ {xs : List ResultVar} {ys : List AV}, resultsL E st xs = some ys → xs.length = ys.length ∧ ∀ (i : Nat) x, xs[i]? = some x → ∃ y, ys[i]? = some y ∧ resultA E st x = some y := by
  intro xs
  induction xs with
  | nil => intro ys h; simp only [resultsL, Option.some.injEq] at h; subst h; exact ⟨rfl, by simp⟩
  | cons x xs ih =>
    intro ys h
    simp only [resultsL] at h
    split at h
    · rename_i y zs hx hxs
      cases h
      obtain ⟨h1, h2⟩ := ih hxs
      refine ⟨by simp [h1], fun i z hz => ?_⟩
      cases i with
      | zero => simp at hz; subst hz; exact ⟨y, rfl, hx⟩
      | succ i => simpa using h2 i z (by simpa using hz)
    · cases h

omit hk rok in
theorem results_run {I : Imm} {ι : Inj} {st : St} {w : World} {tm : List Value} (hr : RelH I ι st.H w) (ht : TR I ι w st.t tm) {fn : Func} {v : AV} (h : resultsA E fn st = some v) :
    ∃ vm, (results fn tm.toArray).run P w = .ok vm w ∧ VR I ι w v vm := by
  unfold resultsA at h
  have key : ∀ vs : List AV, resultsL E st fn.results.toList = some vs → ∃ us : List Value,
      (fn.results.toList.mapM (fun (x : ResultVar) => (match x with | .tmp t => pure (tm.toArray.getD t undef) | .cell a t => do loadVar t (← asAddr (tm.toArray.getD a undef)) : Sem Value))).run P w = .ok us w ∧ VRs I ι w vs us := by
    intro vs hm
    obtain ⟨hl, hd⟩ := resultsL_some hm
    have : ∃ us : List Value, us.length = vs.length ∧ ∀ (i : Nat) x y, fn.results.toList[i]? = some x → vs[i]? = some y → ∃ u, us[i]? = some u ∧
        ((match x with | .tmp t => pure (tm.toArray.getD t undef) | .cell a t => do loadVar t (← asAddr (tm.toArray.getD a undef)) : Sem Value)).run P w = .ok u w ∧ VR I ι w y u := by
      clear h
      generalize fn.results.toList = l at hl hd
      clear hm
      induction l generalizing vs with
      | nil => have : vs = [] := by simpa using hl.symm
               subst this; exact ⟨[], rfl, by simp⟩
      | cons x l ih =>
        cases vs with
        | nil => simp at hl
        | cons y vs =>
          obtain ⟨us, u1, u2⟩ := ih vs (by simpa using hl) (fun i x hx => by simpa using hd (i + 1) x (by simpa using hx))
          obtain ⟨y', hy1, hy2⟩ := hd 0 x rfl
          simp only [List.getElem?_cons_zero, Option.some.injEq] at hy1; subst hy1
          obtain ⟨u, hu1, hu2⟩ := result_run ok hr ht hy2
          refine ⟨u :: us, by simp [u1], fun i x' y' hx hy => ?_⟩
          cases i with
          | zero => simp at hx hy; subst hx hy; exact ⟨u, rfl, hu1, hu2⟩
          | succ i => simpa using u2 i x' y' (by simpa using hx) (by simpa using hy)
    obtain ⟨us, u1, u2⟩ := this
    refine ⟨us, mapM_run _ us (by omega) fun i x hx => ?_, u1, fun i y u hy hu => ?_⟩
    · have hi : i < vs.length := by rw [← hl]; exact (List.getElem?_eq_some_iff.1 hx).1
      obtain ⟨u, h1, h2, _⟩ := u2 i x vs[i] hx (by simp [hi])
      exact ⟨u, h1, h2⟩
    · have hi : i < fn.results.toList.length := by rw [hl]; exact (List.getElem?_eq_some_iff.1 hy).1
      obtain ⟨u', h1, _, h3⟩ := u2 i fn.results.toList[i] y (by simp [hi]) hy
      rw [h1] at hu; cases hu; exact h3
  have hres : ∀ us : List Value, (fn.results.toList.mapM (fun (x : ResultVar) => (match x with | .tmp t => pure (tm.toArray.getD t undef) | .cell a t => do loadVar t (← asAddr (tm.toArray.getD a undef)) : Sem Value))).run P w = .ok us w →
      (results fn tm.toArray).run P w = .ok (if h : us.toArray.size = 1 then us.toArray[0] else .tuple us.toArray) w := by
    intro us hus
    unfold results
    rw [Array.mapM_eq_mapM_toList]
    simp only [Sem.run_bind, Sem.run_map, Result.andThen_ok]
    have e : ∀ g : ResultVar → Sem Value, g = (fun (x : ResultVar) => (match x with | .tmp t => pure (tm.toArray.getD t undef) | .cell a t => do loadVar t (← asAddr (tm.toArray.getD a undef)) : Sem Value)) → (fn.results.toList.mapM g).run P w = .ok us w := fun g hg => by rw [hg]; exact hus
    rw [e _ (by funext x; cases x <;> rfl)]
    rfl
  split at h
  · rename_i v' hm
    cases h
    obtain ⟨us, h1, h2⟩ := key _ hm
    obtain ⟨u, us', rfl, hu, hn⟩ := h2.uncons
    have := hn.unnil; subst this
    exact ⟨u, by rw [hres _ h1]; simp, hu⟩
  · rename_i vs hne hm
    cases h
    obtain ⟨us, h1, h2⟩ := key _ hm
    have hl : us.length ≠ 1 := by
      rw [h2.len]
      intro hl
      cases vs with
      | nil => simp at hl
      | cons a as_ => cases as_ with
        | nil => exact hne a rfl
        | cons => simp at hl
    exact ⟨.tuple us.toArray, by rw [hres _ h1]; simp [hl], VR.tup' h2⟩
  · cases h
end
end Go.Ab
namespace Go.Ab

theorem steps_other {P : Program} {A A' B X : Machine} (h : Steps P A X) (hA : step P A = .next B) (hA' : step P A' = .next B) (hne : A ≠ X) : Steps P A' X := by
  obtain ⟨n, hn⟩ := h
  cases n with
  | zero => simp only [runN, Stepped.next.injEq] at hn; exact absurd hn hne
  | succ n =>
    simp only [runN, hA] at hn
    exact ⟨n + 1, by simp only [runN, hA']; exact hn⟩

theorem lone_todo {fr fr' : Frame} {cs cs' : List Frame} {w w' : World} (h : lone fr cs w = lone fr' cs' w') : fr.todo = fr'.todo := by
  have := congrArg Machine.gs h
  simp only [lone, Array.mk.injEq, List.cons.injEq, Goroutine.mk.injEq] at this
  rw [this.1.1]

/-- Back at the head of a loop. -/
theorem arr_loop {P : Program} {b : Frame} {a a' : Act} {c : Code} {k : List Item} {cs : List Frame} {w w' : World} {e : Ex} (h : Arr P (lone (b.atR a (.code (.loop c) :: k)) cs w) b k cs e a' w') : Arr P (lone (b.atR a (.inLoop c :: k)) cs w) b k cs e a' w' := by
  cases e with
  | normal =>
    exact steps_other h stepR_loop stepR_inLoop fun he => by
      have := lone_todo he
      have := congrArg List.length this
      simp [Frame.atR] at this
  | exit id =>
    obtain ⟨k2, h1, h2⟩ := h
    exact ⟨k2, h1, steps_other h2 stepR_loop stepR_inLoop fun he => by
      have := lone_todo he
      simp [Frame.atR] at this⟩
  | ret =>
    obtain ⟨k2, h2⟩ := h
    exact ⟨k2, steps_other h2 stepR_loop stepR_inLoop fun he => by
      have := lone_todo he
      simp [Frame.atR] at this⟩

/-- Under an item that catches nothing. -/
theorem arr_pass {P : Program} {m : Machine} {b : Frame} {x : Item} {k : List Item} {cs : List Frame} {e : Ex} {a : Act} {w : World} (hx : ∀ id, exitTo id (x :: k) = exitTo id k) (he : e ≠ .normal) (h : Arr P m b (x :: k) cs e a w) : Arr P m b k cs e a w := by
  cases e with
  | normal => exact absurd rfl he
  | exit id => obtain ⟨k2, h1, h2⟩ := h; exact ⟨k2, h1.trans (hx id), h2⟩
  | ret => exact h

section
variable {P : Program}
theorem stepR_rangeFunc' {b : Frame} {a : Act} {k : List Item} {cs : List Frame} {w w1 : World} {f : Operand} {ps : Array Tmp} {asg body : Code} {l : Nat} {mark : List Deferred} {g : FuncId} {caps : Array Value}
    (h1 : (Instr.enterLoop b.fn a.tmps ps asg body b.roundOf).run P w = .ok (l, mark) w1) (hf : a.eval f = .func (.func g) #[] caps) (hg : Enters P g) :
    step P (lone (b.atR a (.code (.rangeFunc f ps asg body) :: k)) cs w) = .next (lone (Frame.enter P g (#[.func (.yield l) #[] #[]] ++ caps) .normal) (b.atR { a with defers := mark ++ a.defers } (.inRangeFunc l :: k) :: cs) w1) := by
  refine step_lone_go ?_
  have he := congrFun (Frame.eval_atR b { a with defers := mark ++ a.defers } (.inRangeFunc l :: k)) f
  simp only [Frame.atR] at he
  have hi : (do let d ← resolve (Frame.eval { fn := b.fn, tmps := a.tmps, todo := .inRangeFunc l :: k, defers := mark ++ a.defers, mode := .run, kind := b.kind, roundOf := b.roundOf }) { callee := .value f, args := #[.const (.func (.yield l) #[] #[])], argTypes := #[] } 0; invoke d.target d.args : Sem Next).run P w1 = .ok (.enter g (#[.func (.yield l) #[] #[]] ++ caps)) w1 := by
    simp only [resolve, Sem.run_bind, he]
    have : (Act.eval { tmps := a.tmps, defers := mark ++ a.defers } f) = .func (.func g) #[] caps := by
      rw [← hf]; cases f <;> rfl
    rw [this]
    simp only [Deferred.ofValue, Sem.run_pure, Result.andThen_ok, invoke]
    have := hg (#[.func (.yield l) #[] #[]] ++ caps) w1
    simpa [Frame.eval] using this
  simp only [stepG, stepG.exec, Frame.atR, Sem.runT_eq, h1, GStep.bare_after]
  simp only [stepG.apply, Sem.runT_eq, hi]
  simp [GStep.bare_after]

theorem stepR_endRangeFunc' {b : Frame} {a : Act} {k : List Item} {cs : List Frame} {w w1 : World} {l : Nat} {j : Option Code} (h : (Instr.endLoop l).run P w = .ok j w1) :
    step P (lone (b.atR a (.endRangeFunc l :: k)) cs w) = .next (lone (b.atR a ((j.map Item.code).toList ++ k)) cs w1) :=
  step_lone_go (by simp [stepG, stepG.exec, Frame.atR, Sem.runT_eq, h])

theorem run_enterLoop_none {w : World} (fn : FuncId) (tmps : Array Value) (ps : Array Tmp) (asg body : Code) :
    (Instr.enterLoop fn tmps ps asg body none).run P w =
      .ok (w.heap.size + 1, [{ target := .collected w.heap.size, args := #[] }])
        (wpush (wpush w (.deferred (some []))) (.loop { state := .ready, pending := none, fn, tmps, params := ps, assign := asg, body, defers := w.heap.size })) := by
  unfold Instr.enterLoop
  simp only [Sem.run_bind, run_newObj, Result.andThen_ok, Sem.run_pure]
  simp [wpush]
theorem run_enterLoop_some {w : World} {l0 : Nat} {r0 : Loop} (h : w.heap[l0]? = some (.loop r0)) (fn : FuncId) (tmps : Array Value) (ps : Array Tmp) (asg body : Code) :
    (Instr.enterLoop fn tmps ps asg body (some l0)).run P w =
      .ok (w.heap.size, []) (wpush w (.loop { state := .ready, pending := none, fn, tmps, params := ps, assign := asg, body, defers := r0.defers })) := by
  unfold Instr.enterLoop
  simp only [Sem.run_bind, run_newObj, Result.andThen_ok, Sem.run_pure, run_getLoop' h]
end

section
variable {P : Program} {E : Env} (ok : EnvOK P E) (hk : HooksOK P E) {r : Rec} (rok : RecOK P E r)
include ok hk rok

theorem range_sim (f : FuncId) (g : Operand) (ps : Array Tmp) (asg body : Code) (st : St) (e : Ex) (st' : St) (hc : Code.drawOK (.rangeFunc g ps asg body) = true) (h : evCode E r f (.rangeFunc g ps asg body) st = some (e, st')) : CodeSim P E f (.rangeFunc g ps asg body) st e st' := by
  intro ro I ι w tm hr ht hg hro
  simp only [Code.drawOK, Bool.and_eq_true] at hc
  obtain ⟨hc1, hc2⟩ := hc
  have hsg := same_eval ht g
  -- the record is laid
  have start : ∃ w1 ds lm, (∀ b : Frame, b.fn = f → b.roundOf = ro → (Instr.enterLoop b.fn tm.toArray ps asg body b.roundOf).run P w = .ok (lm, marksOf ds) w1) ∧ (∀ l, ro = some l → ds = []) ∧ ds.Nodup ∧
      RelH I (ι.put st.H.n (lm, 0, 0)) (st.H.push (.loop f st.t ps.toList asg body .ready none)) w1 ∧ Ext I ι st.H w I (ι.put st.H.n (lm, 0, 0)) (st.H.push (.loop f st.t ps.toList asg body .ready none)) w1 ∧
      (∀ D ∈ ds, w.heap.size ≤ D ∧ MarkOK (ι.put st.H.n (lm, 0, 0)) (st.H.push (.loop f st.t ps.toList asg body .ready none)) w1 D) := by
    have lay : ∀ (w0 : World), RelH I ι st.H w0 → TR I ι w0 st.t tm → ∀ D : Nat, 
        RelH I (ι.put st.H.n (w0.heap.size, 0, 0)) (st.H.push (.loop f st.t ps.toList asg body .ready none)) (wpush w0 (.loop { state := .ready, pending := none, fn := f, tmps := tm.toArray, params := ps, assign := asg, body, defers := D })) ∧
        Ext I ι st.H w0 I (ι.put st.H.n (w0.heap.size, 0, 0)) (st.H.push (.loop f st.t ps.toList asg body .ready none)) (wpush w0 (.loop { state := .ready, pending := none, fn := f, tmps := tm.toArray, params := ps, assign := asg, body, defers := D })) := by
      intro w0 hr0 ht0 D
      have hid := inj_none hr0 (Nat.le_refl st.H.n)
      refine newBlk hr0 (.loop f st.t ps.toList asg body .ready none) _ st.H.n 0 hid (Heap.wf_push hr0.wf) (by rw [Heap.n_push]; omega) (by rw [Heap.n_push]; omega) (Heap.get_push_same hr0.wf) (fun j hj => Heap.get_push_ne hr0.wf hj) (fun b o h => h) ?_
      refine ⟨_, wpush_new, rfl, rfl, rfl, rfl, rfl, rfl, ?_, hc1, hc2⟩
      have := ht0.mono (w' := wpush w0 (.loop { state := .ready, pending := none, fn := f, tmps := tm.toArray, params := ps, assign := asg, body, defers := D })) (fun _ _ h => h) (fun b o v _ hv => by rw [cell?_congr (wpush_old (cell?_lt hv))]; exact hv) (Inj.put_mono (r := (w0.heap.size, 0, 0)) hid)
      simpa using this
    cases ro with
    | none =>
      obtain ⟨p1, p2⟩ := pushObj hr (.deferred (some []))
      obtain ⟨l1, l2⟩ := lay (wpush w (.deferred (some []))) p1 (p2.tr hr ht) w.heap.size
      refine ⟨_, [w.heap.size], _, fun b hb hbr => by rw [hb, hbr]; have := run_enterLoop_none (P := P) (w := w) f tm.toArray ps asg body; rw [this]; simp [marksOf, wpush], (fun l h => by cases h), by simp, l1, p2.trans l2, fun D hD => ?_⟩
      simp only [List.mem_singleton] at hD
      subst hD
      refine ⟨Nat.le_refl _, MarkOK.ext (I := I) ⟨wpush_new, fun hown => ?_⟩ l2⟩
      have := own_lt hr hown
      omega
    | some l0 =>
      obtain ⟨r0, hr0⟩ := hro l0 rfl
      obtain ⟨l1, l2⟩ := lay w hr ht r0.defers
      exact ⟨_, [], _, fun b hb hbr => by rw [hb, hbr]; exact run_enterLoop_some hr0 f tm.toArray ps asg body, fun _ _ => rfl, List.nodup_nil, l1, l2, fun D hD => by cases hD⟩
  obtain ⟨w1, ds, lm, s1, s2, s3, s4, s5, s6⟩ := start
  -- the call of the iterator, and what is done behind it
  have body_ : ∀ (gf : FuncId) (args : List AV) (capm : List Value), VRs I ι w args capm → evalM tm g = .func (.func gf) #[] capm.toArray → ∀ (x : Option (AV × Heap)), r.call gf (.yield st.H.n :: args) (st.H.push (.loop f st.t ps.toList asg body .ready none)) = x →
      rangeDone st.H.n st.t x = some (e, st') →
      ∃ I' ι' w' tm' ds, RelH I' ι' st'.H w' ∧ TR I' ι' w' st'.t tm' ∧ Ext I ι st.H w I' ι' st'.H w' ∧ (∀ id, id < st.H.n → ι' id = ι id) ∧ (∀ l, ro = some l → ds = []) ∧ ds.Nodup ∧
        (∀ D ∈ ds, w.heap.size ≤ D ∧ MarkOK ι' st'.H w' D) ∧
        ∀ (b : Frame) k cs dfs, b.fn = f → b.roundOf = ro → b.kind = .normal → Arr P (lone (b.atR ⟨tm.toArray, dfs⟩ (.code (.rangeFunc g ps asg body) :: k)) cs w) b k cs e ⟨tm'.toArray, marksOf ds ++ dfs⟩ w' := by
    intro gf args capm hargs hgm x hx hm
    unfold rangeDone at hm
    cases x with
    | none => cases hm
    | some p =>
      obtain ⟨v, H1⟩ := p
      dsimp only at hm
      have hall : VRs I (ι.put st.H.n (lm, 0, 0)) w1 (.yield st.H.n :: args) (.func (.yield lm) #[] #[] :: capm) := (s5.vrs hr hargs).cons (.yield Inj.put_same)
      obtain ⟨I2, ι2, w2, vm, a1, a2, a3, a4, a5, a6⟩ := rok.call gf _ _ v H1 hx I _ w1 _ s4 hall (hg.ext s5 hr)
      have hl2 : ι2 st.H.n = some (lm, 0, 0) := by rw [a4 st.H.n (by rw [Heap.n_push]; omega)]; exact Inj.put_same
      split at hm
      · rename_i f' t' p' a' b' s j hgl
        split at hm
        · cases hm
        rename_i hnb
        have hbr := a1.blk _ _ hl2
        rw [hgl] at hbr
        obtain ⟨l, h1, h2, h3, h4, h5, h6, h7, h8, h9⟩ := hbr
        dsimp only at h1
        have hend := run_endLoop' (P := P) h1 (by rw [h2]; intro e; rw [e] at hnb; simp at hnb)
        obtain ⟨b1, b2⟩ := putLoop a1 hl2 hgl (l := l) h1 .exhausted j
        dsimp only at b1 b2
        have hpe : ({ l with state := LoopState.exhausted } : Loop) = { l with state := .exhausted, pending := j } := by rw [← h3]
        rw [hpe, h3] at hend
        have hst : st'.t = st.t ∧ st'.H = H1.set st.H.n (.loop f' t' p' a' b' .exhausted j) ∧ ((j = none ∧ e = .normal) ∨ (∃ id, j = some (.exit id) ∧ e = .exit id) ∨ (j = some .ret ∧ e = .ret)) := by
          split at hm
          · cases hm; exact ⟨rfl, rfl, .inl ⟨rfl, rfl⟩⟩
          · cases hm; exact ⟨rfl, rfl, .inr (.inl ⟨_, rfl, rfl⟩)⟩
          · cases hm; exact ⟨rfl, rfl, .inr (.inr ⟨rfl, rfl⟩)⟩
          · cases hm
        obtain ⟨e1, e2, e3⟩ := hst
        rw [e1, e2]
        have hxx := (s5.trans a3).trans b2
        refine ⟨I2, ι2, _, tm, ds, b1, hxx.tr hr ht, hxx, fun id hlt => ?_, s2, s3, fun D hD => ⟨(s6 D hD).1, ((s6 D hD).2.ext a3).ext b2⟩, ?_⟩
        · rw [a4 id (by rw [Heap.n_push]; omega)]; exact Inj.put_ne (by omega)
        · intro b k cs dfs hb hbr hbk
          have st1 := stepR_rangeFunc' (P := P) (b := b) (a := ⟨tm.toArray, dfs⟩) (k := k) (cs := cs) (f := g) (ps := ps) (asg := asg) (body := body) (s1 b hb hbr) (by rw [evalM_eq]; exact hgm) a5
          have harr : (#[Value.func (.yield lm) #[] #[]] ++ capm.toArray) = (Value.func (.yield lm) #[] #[] :: capm).toArray := by simp
          rw [harr] at st1
          have st2 := a6.back (b.atR { tmps := tm.toArray, defers := marksOf ds ++ dfs } (.inRangeFunc lm :: k)) cs
          have hfin : (b.atR { tmps := tm.toArray, defers := marksOf ds ++ dfs } (.inRangeFunc lm :: k)).finish vm = b.atR { tmps := tm.toArray, defers := marksOf ds ++ dfs } (.endRangeFunc lm :: k) := by simp [Frame.finish, Frame.atR]
          rw [hfin] at st2
          have st3 := stepR_endRangeFunc' (P := P) (b := b) (a := ⟨tm.toArray, marksOf ds ++ dfs⟩) (k := k) (cs := cs) hend
          have all := (Steps.head st1 st2).trans (.one st3)
          rcases e3 with ⟨rfl, rfl⟩ | ⟨id, rfl, rfl⟩ | ⟨rfl, rfl⟩
          · exact all
          · exact ⟨k, rfl, all⟩
          · exact ⟨k, all⟩
      · cases hm
  unfold evCode at h
  split at h
  · rename_i gf caps hgv
    split at h
    · cases h
    rename_i hnh
    rw [hgv] at hsg
    generalize hq : evalM tm g = q at hsg
    cases hsg with
    | d hd => cases hd with
      | fn _ _ us hl hv => exact body_ gf _ us (vrs_ofD (by omega) hv) hq _ rfl h
  · rename_i gf caps hgv
    split at h
    · cases h
    rename_i hnh
    rw [hgv] at hsg
    generalize hq : evalM tm g = q at hsg
    cases hsg with
    | fn hl hv => exact body_ gf _ _ ⟨hl, hv⟩ hq _ rfl h
  · cases h
end
end Go.Ab
namespace Go.Ab

section
variable {P : Program} {E : Env} (ok : EnvOK P E) (hk : HooksOK P E) {r : Rec} (rok : RecOK P E r)
include ok hk rok

theorem region_sim (f : FuncId) (id : Nat) (ops : Array Oper) (draw : Bool) (st : St) (e : Ex) (st' : St) (hc : Code.drawOK (.region id ops draw) = true) (h : evCode E r f (.region id ops draw) st = some (e, st')) : CodeSim P E f (.region id ops draw) st e st' := by
  intro ro I ι w tm hr ht hg hro
  unfold evCode at h
  cases draw with
  | false =>
    dsimp only at h
    cases hev : evOps E r ops.toList ops.toList st with
    | none => rw [hev] at h; cases h
    | some st1 =>
      rw [hev] at h
      simp only [Option.some.injEq, Prod.mk.injEq] at h
      obtain ⟨rfl, rfl⟩ := h
      obtain ⟨I', ι', w', tm', a1, a2, a3, a4, a5⟩ := evOps_sim ok hk rok ops.toList 0 st _ rfl hev I ι w tm hr ht hg
      refine ⟨I', ι', w', tm', [], a1, a2, a3, a4, fun _ _ => rfl, List.nodup_nil, (fun D hD => by cases hD), fun b k cs dfs _ _ hb => ?_⟩
      have := a5 b k cs dfs hb
      rw [← List.range_eq_range', Array.length_toList] at this
      exact (Steps.head stepR_region this).trans (.one stepR_region_end)
  | true =>
    dsimp only at h
    simp only [Code.drawOK, Bool.not_true, Bool.false_or] at hc
    obtain ⟨hpre, hap⟩ := drawOps_spec hc
    rw [Array.length_toList] at h
    cases hev : evOpsD E r ops.toList st.H.n 0 ops.toList [] ⟨st.t, st.H.reserve ops.size⟩ with
    | none => rw [hev] at h; cases h
    | some st1 =>
      rw [hev] at h
      simp only [Option.some.injEq, Prod.mk.injEq] at h
      obtain ⟨rfl, rfl⟩ := h
      obtain ⟨log, h1, _, h3⟩ := evOpsD_run ops.toList 0 [] _ _ rfl (fun p hp => by cases hp) hev
      -- the order that is drawn
      obtain ⟨w1, hw1⟩ : ∃ w1 : World, w1 = { w with drawn := w.drawn + 1 } := ⟨_, rfl⟩
      have hwh : w1.heap = w.heap := by rw [hw1]
      obtain ⟨q1, q2⟩ := reserveBlk (relH_heap hwh hr) ops.size
      have hx0 : Ext I ι st.H w I ι (st.H.reserve ops.size) w1 := (ext_heap hwh (by rw [hw1]) (by rw [hw1]) (by rw [hw1]) (by rw [hw1]; exact Nat.le_succ _)).trans q2
      have hlin := fun t => lin_go ops (fun j o ho => hpre j o (by simpa using ho)) ops.size t (Array.replicate ops.size false) [] (by simp) (fun j hj => by simp [Array.getD, hj]) (by
        refine Nat.le_trans (List.length_filter_le _ _) (by simp))
      obtain ⟨t, htt⟩ : ∃ t, t = w.tape w.drawn (.order f id) := ⟨_, rfl⟩
      obtain ⟨l1, l2, l3⟩ := hlin t
      obtain ⟨log', hrun⟩ := permRun (E := E) (r := r) (base := st.H.n) (fun y x oy ox a b c d => hap y x oy ox a b c d) _ (List.range' 0 ops.toList.length) [] (List.pairwise_lt_range') l1 (fun j => by
        rw [l2 j]; simp [List.mem_range']) l3 (fun x hx => by cases hx) (fun x _ hx => by cases hx) h1 (fun p hp q hq hlt => h3 p (by simpa using hp) q hq hlt)
      obtain ⟨I', ι', w', tm', a1, a2, a3, a4, a5⟩ := runD_sim ok hk rok _ ⟨st.t, st.H.reserve ops.size⟩ _ log' hrun l1 I ι w1 tm q1 (ht.mono (fun _ _ h => h) (fun b o v _ hv => by rw [wheap_cell hwh]; exact hv) (fun _ _ h => h)) ((fun g ds hd => (hg g ds hd).mono (fun _ _ h => h) (fun b o v _ hv => by rw [wheap_cell hwh]; exact hv))) (fun j hj => by
        have := (l2 j).1 hj
        refine ⟨inj_none hr (by omega), ?_⟩
        show st.H.n + j < (st.H.reserve ops.size).n
        rw [Heap.n_reserve]; omega)
      refine ⟨I', ι', w', tm', [], a1, a2, hx0.trans a3, fun i hi => a4 i (by show i < (st.H.reserve ops.size).n; rw [Heap.n_reserve]; omega) (fun j _ => by omega), fun _ _ => rfl, List.nodup_nil, (fun D hD => by cases hD), fun b k cs dfs hbf _ hb => ?_⟩
      have hs := stepR_region_draw (P := P) (b := b) (a := ⟨tm.toArray, dfs⟩) (k := k) (cs := cs) (w := w) (ops := ops) (id := id)
      rw [hbf, ← htt, ← hw1] at hs
      have hsch : Region.schedule (P.follows .mixedOrders) ops t = Region.linearise.go .any ops ops.size t (Array.replicate ops.size false) [] := by
        unfold Region.schedule
        rw [ok.mixed]; rfl
      rw [hsch] at hs
      exact (Steps.head hs (a5 b k cs dfs hb)).trans (.one stepR_region_end)

theorem code_sim (f : FuncId) (c : Code) : ∀ (st : St) (e : Ex) (st' : St), Code.drawOK c = true → evCode E r f c st = some (e, st') → CodeSim P E f c st e st' := by
  induction c with
  | skip =>
    intro st e st' _ h ro I ι w tm hr ht hg _
    simp only [evCode, Option.some.injEq, Prod.mk.injEq] at h
    obtain ⟨rfl, rfl⟩ := h
    exact ⟨I, ι, w, tm, [], hr, ht, Ext.refl I ι st.H w, fun _ _ => rfl, fun _ _ => rfl, List.nodup_nil, (fun D hD => by cases hD), fun b k cs dfs _ _ _ => .one stepR_skip⟩
  | region id ops draw => intro st e st' hc h; exact region_sim ok hk rok f id ops draw st e st' hc h
  | seq x y ihx ihy =>
    intro st e st' hc h ro I ι w tm hr ht hg hro
    simp only [Code.drawOK, Bool.and_eq_true] at hc
    unfold evCode at h
    split at h
    · rename_i st1 hx
      obtain ⟨I1, ι1, w1, tm1, ds1, a1, a2, a3, a4, a5, a6, a7, a8⟩ := ihx st .normal st1 hc.1 hx ro I ι w tm hr ht hg hro
      obtain ⟨I2, ι2, w2, tm2, ds2, b1, b2, b3, b4, b5, b6, b7, b8⟩ := ihy st1 e st' hc.2 h ro I1 ι1 w1 tm1 a1 a2 (hg.ext a3 hr) (fun l hl => by
        obtain ⟨r0, hr0⟩ := hro l hl
        exact a3.loops l r0 hr0)
      obtain ⟨m1, m2⟩ := marks_join (I := I1) (I0 := I) (ι0 := ι) (H0 := st.H) a3.size b3 a6 b6 a7 b7
      refine ⟨I2, ι2, w2, tm2, ds2 ++ ds1, b1, b2, a3.trans b3, fun id hlt => by rw [b4 id (Nat.lt_of_lt_of_le hlt a3.n), a4 id hlt], fun l hl => by rw [a5 l hl, b5 l hl]; rfl, m1, m2, fun b k cs dfs hb hbr hbk => ?_⟩
      have s1 := a8 b (.code y :: k) cs dfs hb hbr hbk
      have s2 := b8 b k cs (marksOf ds1 ++ dfs) hb hbr hbk
      rw [← List.append_assoc, ← marksOf_append] at s2
      exact arr_trans (Steps.head stepR_seq s1) s2
    · rename_i o hno
      obtain ⟨I1, ι1, w1, tm1, ds1, a1, a2, a3, a4, a5, a6, a7, a8⟩ := ihx st e st' hc.1 h ro I ι w tm hr ht hg hro
      have hne : e ≠ .normal := fun he => by subst he; exact hno _ h
      exact ⟨I1, ι1, w1, tm1, ds1, a1, a2, a3, a4, a5, a6, a7, fun b k cs dfs hb hbr hbk => arr_trans (.one stepR_seq) (arr_pass (fun _ => rfl) hne (a8 b (.code y :: k) cs dfs hb hbr hbk))⟩
  | cond c x y ihx ihy =>
    intro st e st' hc h ro I ι w tm hr ht hg hro
    simp only [Code.drawOK, Bool.and_eq_true] at hc
    unfold evCode at h
    split at h
    · rename_i hb
      have hv := asBool_spec hb (same_eval ht c)
      obtain ⟨I1, ι1, w1, tm1, ds1, a1, a2, a3, a4, a5, a6, a7, a8⟩ := ihx st e st' hc.1 h ro I ι w tm hr ht hg hro
      exact ⟨I1, ι1, w1, tm1, ds1, a1, a2, a3, a4, a5, a6, a7, fun b k cs dfs hb hbr hbk => arr_trans (.one (stepR_cond (t := true) (by rw [evalM_eq]; exact hv))) (a8 b k cs dfs hb hbr hbk)⟩
    · rename_i hb
      have hv := asBool_spec hb (same_eval ht c)
      obtain ⟨I1, ι1, w1, tm1, ds1, a1, a2, a3, a4, a5, a6, a7, a8⟩ := ihy st e st' hc.2 h ro I ι w tm hr ht hg hro
      exact ⟨I1, ι1, w1, tm1, ds1, a1, a2, a3, a4, a5, a6, a7, fun b k cs dfs hb hbr hbk => arr_trans (.one (stepR_cond (t := false) (by rw [evalM_eq]; exact hv))) (a8 b k cs dfs hb hbr hbk)⟩
    · cases h
  | block id c ih =>
    intro st e st' hc h ro I ι w tm hr ht hg hro
    simp only [Code.drawOK] at hc
    unfold evCode at h
    split at h
    · rename_i id' st1 hx
      obtain ⟨I1, ι1, w1, tm1, ds1, a1, a2, a3, a4, a5, a6, a7, a8⟩ := ih st (.exit id') st1 hc hx ro I ι w tm hr ht hg hro
      cases hid : Nat.beq id' id with
      | true =>
        rw [hid] at h
        have hid := of_nbeq hid
        subst hid
        cases h
        refine ⟨I1, ι1, w1, tm1, ds1, a1, a2, a3, a4, a5, a6, a7, fun b k cs dfs hb hbr hbk => ?_⟩
        obtain ⟨k2, e1, e2⟩ := a8 b (.inBlock id' :: k) cs dfs hb hbr hbk
        exact (Steps.head stepR_block e2).trans (.one (stepR_exit (by rw [e1]; simp [exitTo])))
      | false =>
        rw [hid] at h
        have hid := of_nbeq_f hid
        cases h
        refine ⟨I1, ι1, w1, tm1, ds1, a1, a2, a3, a4, a5, a6, a7, fun b k cs dfs hb hbr hbk => ?_⟩
        obtain ⟨k2, e1, e2⟩ := a8 b (.inBlock id :: k) cs dfs hb hbr hbk
        refine ⟨k2, ?_, Steps.head stepR_block e2⟩
        rw [e1]
        have : (id == id') = false := by simp; exact fun h => hid h.symm
        simp [exitTo, this]
    · rename_i o hno
      obtain ⟨I1, ι1, w1, tm1, ds1, a1, a2, a3, a4, a5, a6, a7, a8⟩ := ih st e st' hc h ro I ι w tm hr ht hg hro
      refine ⟨I1, ι1, w1, tm1, ds1, a1, a2, a3, a4, a5, a6, a7, fun b k cs dfs hb hbr hbk => ?_⟩
      have s := a8 b (.inBlock id :: k) cs dfs hb hbr hbk
      cases e with
      | normal => exact (Steps.head stepR_block s).trans (.one stepR_inBlock)
      | exit id' => exact absurd h (hno _ _)
      | ret => obtain ⟨k2, e2⟩ := s; exact ⟨k2, Steps.head stepR_block e2⟩
  | loop c ih =>
    intro st e st' hc h ro I ι w tm hr ht hg hro
    have hc' : Code.drawOK c = true := hc
    unfold evCode at h
    split at h
    · rename_i st1 hx
      obtain ⟨I1, ι1, w1, tm1, ds1, a1, a2, a3, a4, a5, a6, a7, a8⟩ := ih st .normal st1 hc' hx ro I ι w tm hr ht hg hro
      obtain ⟨I2, ι2, w2, tm2, ds2, b1, b2, b3, b4, b5, b6, b7, b8⟩ := rok.code f (.loop c) st1 e st' h hc ro I1 ι1 w1 tm1 a1 a2 (hg.ext a3 hr) (fun l hl => by
        obtain ⟨r0, hr0⟩ := hro l hl
        exact a3.loops l r0 hr0)
      obtain ⟨m1, m2⟩ := marks_join (I := I1) (I0 := I) (ι0 := ι) (H0 := st.H) a3.size b3 a6 b6 a7 b7
      refine ⟨I2, ι2, w2, tm2, ds2 ++ ds1, b1, b2, a3.trans b3, fun id hlt => by rw [b4 id (Nat.lt_of_lt_of_le hlt a3.n), a4 id hlt], fun l hl => by rw [a5 l hl, b5 l hl]; rfl, m1, m2, fun b k cs dfs hb hbr hbk => ?_⟩
      have s1 := a8 b (.inLoop c :: k) cs dfs hb hbr hbk
      have s2 := b8 b k cs (marksOf ds1 ++ dfs) hb hbr hbk
      rw [← List.append_assoc, ← marksOf_append] at s2
      exact arr_trans (Steps.head stepR_loop s1) (arr_loop s2)
    · rename_i o hno
      obtain ⟨I1, ι1, w1, tm1, ds1, a1, a2, a3, a4, a5, a6, a7, a8⟩ := ih st e st' hc' h ro I ι w tm hr ht hg hro
      have hne : e ≠ .normal := fun he => by subst he; exact hno _ h
      exact ⟨I1, ι1, w1, tm1, ds1, a1, a2, a3, a4, a5, a6, a7, fun b k cs dfs hb hbr hbk => arr_trans (.one stepR_loop) (arr_pass (fun _ => rfl) hne (a8 b (.inLoop c :: k) cs dfs hb hbr hbk))⟩
  | rangeFunc g ps asg body _ _ => intro st e st' hc h; exact range_sim ok hk rok f g ps asg body st e st' hc h
  | exit id =>
    intro st e st' _ h ro I ι w tm hr ht hg _
    simp only [evCode, Option.some.injEq, Prod.mk.injEq] at h
    obtain ⟨rfl, rfl⟩ := h
    exact ⟨I, ι, w, tm, [], hr, ht, Ext.refl I ι st.H w, fun _ _ => rfl, fun _ _ => rfl, List.nodup_nil, (fun D hD => by cases hD), fun b k cs dfs _ _ _ => ⟨k, rfl, Steps.refl _ _⟩⟩
  | ret =>
    intro st e st' _ h ro I ι w tm hr ht hg _
    simp only [evCode, Option.some.injEq, Prod.mk.injEq] at h
    obtain ⟨rfl, rfl⟩ := h
    exact ⟨I, ι, w, tm, [], hr, ht, Ext.refl I ι st.H w, fun _ _ => rfl, fun _ _ => rfl, List.nodup_nil, (fun D hD => by cases hD), fun b k cs dfs _ _ _ => ⟨k, Steps.refl _ _⟩⟩
  | scope c _ => intro st e st' _ h; simp [evCode] at h
  | label l => intro st e st' _ h; simp [evCode] at h
  | goto l => intro st e st' _ h; simp [evCode] at h
  | refuse w => intro st e st' _ h; simp [evCode] at h

omit ok hk rok in
theorem fewer_eq {α : Type} {l : List α} {n : Nat} (h : fewer l n = true) : l.length ≤ n := by
  induction l generalizing n with
  | nil => simp
  | cons a l ih => cases n with
    | zero => simp [fewer] at h
    | succ n => simp only [fewer] at h; have := ih h; simp; omega

omit ok hk rok in
theorem sets_get (args : List AV) : ∀ (t : Tm) (k i : Nat), (∀ j, k ≤ j → j < k + args.length → (T.get t j).isSome = true) →
    T.get (Tm.sets t k args) i = if k ≤ i ∧ i < k + args.length then args[i - k]? else T.get t i := by
  induction args with
  | nil => intro t k i _; rw [Tm.sets, if_neg (by simp; try omega)]
  | cons a args ih =>
    intro t k i h
    rw [Tm.sets, ih _ (Nat.succ k) i (fun j h1 h2 => by
      rw [T.get_set, if_neg (by omega)]
      exact h j (by omega) (by simp; omega))]
    by_cases h1 : Nat.succ k ≤ i ∧ i < Nat.succ k + args.length
    · rw [if_pos h1, if_pos ⟨by omega, by simp; omega⟩, show i - k = (i - Nat.succ k) + 1 by omega]; rfl
    · rw [if_neg h1, T.get_set]
      by_cases h2 : k = i
      · subst h2
        rw [if_pos rfl, if_pos ⟨Nat.le_refl _, by simp⟩, Nat.sub_self]
        have := h k (Nat.le_refl _) (by simp)
        cases hg : T.get t k with
        | none => rw [hg] at this; cases this
        | some x => rfl
      · rw [if_neg h2, if_neg (by simp; omega)]

omit ok hk rok in
/-- The temporaries at a function's entry. -/
theorem mk0_tr {I : Imm} {ι : Inj} {w : World} {args : List AV} {vs : List Value} (hs : VRs I ι w args vs) {n : Nat} (hn : args.length ≤ n) : TR I ι w (Tm.mk0 n args) (vs ++ List.replicate (n - args.length) undef) := by
  have hp : n ≤ 2 ^ (Nat.succ (Nat.log2 n)) := Nat.le_of_lt Nat.lt_log2_self
  have hb : ∀ i, T.get (T.mk undefA (Nat.succ (Nat.log2 n)) n) i = if i < n then some undefA else none := fun i => T.get_mk _ _ _ _ hp
  have hg : ∀ i, T.get (Tm.mk0 n args) i = if i < args.length then args[i]? else if i < n then some undefA else none := by
    intro i
    unfold Tm.mk0
    rw [sets_get args _ 0 i (fun j _ h => by rw [hb, if_pos (by omega)]; rfl), hb]
    by_cases h : i < args.length
    · rw [if_pos ⟨Nat.zero_le _, by omega⟩, if_pos h]; rfl
    · rw [if_neg (by omega), if_neg h]
  have hl := hs.len
  refine ⟨fun i => ?_, fun i x v h1 h2 => ?_⟩
  · rw [hg]
    simp only [List.length_append, List.length_replicate]
    by_cases h : i < args.length
    · rw [if_pos h]; simp [h]; try omega
    · rw [if_neg h]
      by_cases h2 : i < n
      · rw [if_pos h2]; simp; try omega
      · rw [if_neg h2]; simp; try omega
  · rw [hg] at h1
    by_cases h : i < args.length
    · rw [if_pos h] at h1
      rw [List.getElem?_append_left (by omega)] at h2
      exact hs.at_ i x v h1 h2
    · rw [if_neg h] at h1
      rw [List.getElem?_append_right (by omega)] at h2
      split at h1
      · cases h1
        rw [List.getElem?_replicate] at h2
        split at h2
        · cases h2; exact VR.undef
        · cases h2
      · cases h1

theorem func_sim (f : FuncId) (args : List AV) (H : Heap) (v : AV) (H' : Heap) (h : evCall E r f args H = some (v, H')) : CallSim P E f args H v H' := by
  intro I ι w vs hr hs hg
  unfold evCall at h
  split at h
  · rename_i fn hfn
    obtain ⟨hP, hname, hdr⟩ := ok.fn f fn hfn
    split at h
    · rename_i c hbody
      have hent : Enters P f := by
        intro args' w'
        have hn : (fn.name == "runtime.NumGoroutine") = false := by simpa using hname
        simp [callFunc, hP, hname, hbody]
      split at h
      · cases h
      rename_i hfew
      have ht0 := mk0_tr hs (fewer_eq hfew)
      have main : ∀ ex st1, evCode E r f c ⟨Tm.mk0 fn.ntmps args, H⟩ = some (ex, st1) → (ex = .normal ∨ ex = .ret) → (match resultsA E fn st1 with | some v => some (v, st1.H) | none => none) = some (v, H') →
          ∃ I' ι' w' vm, RelH I' ι' H' w' ∧ VR I' ι' w' v vm ∧ Ext I ι H w I' ι' H' w' ∧ (∀ id, id < H.n → ι' id = ι id) ∧ Enters P f ∧ CallRun P f vs w vm w' := by
        intro ex st1 hev hex hres
        cases hra : resultsA E fn st1 with
        | none => rw [hra] at hres; cases hres
        | some v' =>
          rw [hra] at hres; cases hres
          obtain ⟨I1, ι1, w1, tm1, ds1, a1, a2, a3, a4, _, a6, a7, a8⟩ := code_sim ok hk rok f c _ ex st1 (hdr c hbody) hev none I ι w _ hr ht0 hg (fun l hl => by cases hl)
          obtain ⟨w2, b1, b2, b3, b4⟩ := unwindMarks (P := P) (tm := []) ds1 w I ι H w1 a1 a3 a6 a7
          have ht2 : TR I1 ι1 w2 st1.t tm1 := ⟨a2.len, fun i x u hx hu => b3 _ _ (a2.at_ i x u hx hu)⟩
          obtain ⟨vm, c1, c2⟩ := results_run ok b1 ht2 hra
          refine ⟨I1, ι1, w2, vm, b1, c2, b2, a4, hent, fun cs => ?_⟩
          let b : Frame := { (default : Frame) with fn := f, kind := .normal }
          have henter : Frame.enter P f vs.toArray .normal = b.atR ⟨(vs ++ List.replicate (fn.ntmps - args.length) undef).toArray, []⟩ [.code c] := by
            have hl := hs.len
            simp [Frame.enter, Frame.atR, hP, hbody, b, hl]
            rfl
          rw [henter]
          have s := a8 b [] cs [] rfl rfl rfl
          have fin : ∀ todo, Steps P (lone (b.atR ⟨(vs ++ List.replicate (fn.ntmps - args.length) undef).toArray, []⟩ [.code c]) cs w) (lone { b.atR ⟨tm1.toArray, marksOf ds1 ++ []⟩ todo with mode := .returning } cs w1) →
              ∃ fr, Steps P (lone (b.atR ⟨(vs ++ List.replicate (fn.ntmps - args.length) undef).toArray, []⟩ [.code c]) cs w) (lone fr cs w2) ∧ fr.fn = f ∧ fr.leaving P w2 (.returned vm) := by
            intro todo hst
            refine ⟨_, hst.trans (b4 _ cs rfl (by simp [Frame.atR])), rfl, rfl, rfl, rfl, fn, hP, ?_⟩
            exact c1
          rcases hex with rfl | rfl
          · exact fin [] (Steps.trans s (.one (stepR_end rfl)))
          · obtain ⟨k2, s⟩ := s
            exact fin _ (s.trans (.one (stepR_ret rfl)))
      split at h
      · rename_i st1 hev; exact main .normal st1 hev (.inl rfl) h
      · rename_i st1 hev; exact main .ret st1 hev (.inr rfl) h
      · cases h
    · cases h
  · cases h
end

theorem ev_ok {P : Program} {E : Env} (ok : EnvOK P E) (hk : HooksOK P E) : ∀ n, RecOK P E (ev E n)
  | 0 => ⟨(fun _ _ _ _ _ h => by cases h), (fun _ _ _ _ _ h => by cases h)⟩
  | n + 1 => ⟨fun f args H v H' h => func_sim ok hk (ev_ok ok hk n) f args H v H' h, fun f c st e st' h hd => code_sim ok hk (ev_ok ok hk n) f c st e st' hd h⟩

/-- **What the evaluator computes of a call, the model's machine comes to.** -/
theorem ev_call {P : Program} {E : Env} (ok : EnvOK P E) (hk : HooksOK P E) {n : Nat} {f : FuncId} {args : List AV} {H H' : Heap} {v : AV} (h : (ev E n).call f args H = some (v, H')) : CallSim P E f args H v H' :=
  (ev_ok ok hk n).call f args H v H' h

end Go.Ab
