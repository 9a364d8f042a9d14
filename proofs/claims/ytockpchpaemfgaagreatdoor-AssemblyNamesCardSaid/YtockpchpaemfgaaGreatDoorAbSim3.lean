/- Rounds of loops over functions; operations in a frame; regions in the order of the text. -/
import Derived.Test.YtockpchpaemfgaaGreatDoorAbSim1
set_option linter.all false
namespace Go.Ab

def wput (w : World) (r : Nat) (o : Obj) : World := { w with heap := w.heap.setIfInBounds r o }
theorem wput_same {w : World} {r : Nat} {o x : Obj} (h : w.heap[r]? = some x) : (wput w r o).heap[r]? = some o := by
  simp [wput, (Array.getElem?_eq_some_iff.1 h).1]
theorem wput_ne {w : World} {r b : Nat} {o : Obj} (h : b ≠ r) : (wput w r o).heap[b]? = w.heap[b]? := by simp [wput, Ne.symm h]
theorem wput_size {w : World} {r : Nat} {o : Obj} : (wput w r o).heap.size = w.heap.size := by simp [wput]

section
variable {P : Program} {w : World}
theorem run_getLoop' {l : Nat} {r : Loop} (h : w.heap[l]? = some (.loop r)) : (Instr.getLoop l).run P w = .ok r w := by
  simp [Instr.getLoop, Sem.run_bind, getObj, Sem.run, h, Result.andThen]
theorem run_setLoop {l : Nat} {r : Loop} (o : Obj) (h : w.heap[l]? = some (.loop r)) : (setObj l o).run P w = .ok () (wput w l o) := by simp [setObj, Sem.run, h, wput]
theorem run_yield' {l : Nat} {r : Loop} {args : Array Value} (h : w.heap[l]? = some (.loop r)) (hs : args.size = r.params.size) :
    (Instr.yield l args).run P w = .ok (.round l r.fn ((r.params.zip args).foldl (fun tmps (t, a) => tmps.setIfInBounds t a) r.tmps) r.assign r.body) w := by
  simp [Instr.yield, Sem.run_bind, run_getLoop' h, Result.andThen, hs]
theorem run_beginRound' {l : Nat} {r : Loop} (h : w.heap[l]? = some (.loop r)) (hr : r.state = .ready) :
    (Instr.beginRound l).run P w = .ok () (wput w l (.loop { r with state := .busy })) := by
  simp [Instr.beginRound, Sem.run_bind, run_getLoop' h, run_setLoop _ h, Result.andThen, hr]
theorem run_endRound' {l : Nat} {r : Loop} (jump : Option Code) (h : w.heap[l]? = some (.loop r)) :
    (Instr.endRound l jump).run P w = .ok (.bool jump.isNone) (wput w l (.loop { r with state := if jump.isNone then .ready else .done, pending := jump })) := by
  simp [Instr.endRound, Sem.run_bind, run_getLoop' h, run_setLoop _ h, Result.andThen]
theorem run_endLoop' {l : Nat} {r : Loop} (h : w.heap[l]? = some (.loop r)) (hb : r.state ≠ .busy) :
    (Instr.endLoop l).run P w = .ok r.pending (wput w l (.loop { r with state := .exhausted })) := by
  simp [Instr.endLoop, Sem.run_bind, run_getLoop' h, run_setLoop _ h, Result.andThen, hb]
end

/-- A loop's record, changed. -/
theorem putLoop {I : Imm} {ι : Inj} {H : Heap} {w : World} (hr : RelH I ι H w) {b : Nat} {rr : Nat × Nat × Nat} (hb : ι b = some rr) {f : FuncId} {t : Tm} {p : List Tmp} {a c : Code} {s : LoopState} {j : Option Code}
    (hg : H.get b = .loop f t p a c s j) {l : Loop} (hl : w.heap[rr.1]? = some (.loop l)) (s' : LoopState) (j' : Option Code) :
    RelH I ι (H.set b (.loop f t p a c s' j')) (wput w rr.1 (.loop { l with state := s', pending := j' })) ∧
      Ext I ι H w I ι (H.set b (.loop f t p a c s' j')) (wput w rr.1 (.loop { l with state := s', pending := j' })) := by
  have hbr := hr.blk b _ hb
  rw [hg] at hbr
  obtain ⟨l0, h1, h2, h3, h4, h5, h6, h7, h8, h9⟩ := hbr
  rw [hl] at h1; cases h1
  obtain ⟨a1, a2, _⟩ := updBlk (w' := wput w rr.1 (.loop { l with state := s', pending := j' })) hr hb (.loop f t p a c s' j') rfl rfl rfl rfl wput_size
    (fun b' c e fr hbb => ⟨c, by rw [wput_ne (fun e => by subst e; rw [hl] at hbb; cases hbb)]; exact hbb, rfl, fun _ _ => rfl⟩)
    (fun b' o' hbb _ hn => by rw [wput_ne (fun e => hn (by subst e; rw [hg]; rfl))]; exact hbb)
    (fun b' l' hbb => by
      by_cases e : b' = rr.1
      · subst e; exact ⟨_, wput_same hl⟩
      · exact ⟨l', by rw [wput_ne e]; exact hbb⟩)
    (fun b' o' hin => by rw [hg]; exact hin)
    (fun hvr => ⟨_, wput_same hl, rfl, rfl, h4, h5, h6, h7, ⟨h8.len, fun i x v a b => hvr _ _ (h8.at_ i x v a b)⟩, h9⟩)
  exact ⟨a1, a2⟩

theorem foldl_set_vrs {I : Imm} {ι : Inj} {w : World} : ∀ (ps : List Tmp) (args : List AV) (vs : List Value) (t : Tm) (tm : List Value), VRs I ι w args vs → TR I ι w t tm →
    TR I ι w ((ps.zip args).foldl (fun t (p, v) => T.set t p v) t) ((ps.zip vs).foldl (fun t (p, v) => t.set p v) tm) := by
  intro ps
  induction ps with
  | nil => intro args vs t tm _ h; exact h
  | cons p ps ih =>
    intro args vs t tm ha h
    cases args with
    | nil => have := ha.unnil; subst this; exact h
    | cons x args =>
      obtain ⟨v, vs', rfl, h1, h2⟩ := ha.uncons
      simp only [List.zip_cons_cons, List.foldl_cons]
      exact ih args vs' _ _ h2 (h.set h1 p)

theorem foldl_set_arr : ∀ (ps : List Tmp) (vs : List Value) (tm : Array Value),
    ((ps.zip vs).foldl (fun (t : Array Value) (p, v) => t.setIfInBounds p v) tm).toList = (ps.zip vs).foldl (fun t (p, v) => t.set p v) tm.toList := by
  intro ps
  induction ps with
  | nil => intro vs tm; rfl
  | cons p ps ih =>
    intro vs tm
    cases vs with
    | nil => rfl
    | cons v vs =>
      simp only [List.zip_cons_cons, List.foldl_cons]
      rw [ih]; simp

section
variable {P : Program} {E : Env} (ok : EnvOK P E) (hk : HooksOK P E) {r : Rec} (rok : RecOK P E r) {I : Imm} {ι : Inj} {H : Heap} {w : World}
include ok hk rok

omit ok hk in
theorem yieldA_sim (hr : RelH I ι H w) (hg : GlobOK E I w) {b : Nat} {args : List AV} {vs : List Value} (hs : VRs I ι w args vs) {k o e : Nat} (hb : ι b = some (k, o, e)) {rid : Option Nat} {v : AV} {H' : Heap} (hex : (yieldA r b args).exec rid H = some (v, H')) :
    Post I ι H w rid H' v fun w' vm => ∃ f tmps a c, (Instr.yield k vs.toArray).run P w = .ok (.round k f tmps a c) w ∧ RoundRun P k f tmps a c w vm w' := by
  unfold yieldA at hex
  simp only [Action.exec] at hex
  split at hex
  · rename_i f tmps params asg body hgb
    split at hex
    · cases hex
    rename_i hlen
    have hlen := (lenIs_eq _ _).1 hlen
    have hbr := hr.blk b _ hb
    rw [hgb] at hbr
    obtain ⟨l, h1, h2, h3, h4, h5, h6, h7, h8, h9, h10⟩ := hbr
    dsimp only at h1
    split at hex
    · rename_i st1 hasg
      split at hex
      · rename_i f1 t1 p1 as1 bo1 hgb1
        split at hex
        · rename_i ex st2 hbody
          split at hex
          · rename_i f2 t2 p2 as2 bo2 s2 j2 hgb2
            cases hex
            -- the assignments to the loop's variables
            have ht := foldl_set_vrs params args vs tmps l.tmps.toList hs h8
            obtain ⟨I1, ι1, w1, tm1, ds1, a1, a2, a3, a4, a5, _, _, a8⟩ := rok.code f asg _ .normal st1 hasg h9 (some k) I ι w _ hr ht hg (fun l' e => by cases e; exact ⟨l, h1⟩)
            have hd1 := a5 k rfl
            subst hd1
            have hb1 : ι1 b = some (k, o, e) := a3.inj b _ hb
            have hbr1 := a1.blk b _ hb1
            rw [hgb1] at hbr1
            obtain ⟨l1, i1, i2, i3, i4, i5, i6, i7, i8, i9, i10⟩ := hbr1
            dsimp only at i1
            -- the record is busy
            obtain ⟨b1, b2⟩ := putLoop a1 hb1 hgb1 (l := l1) i1 .busy none
            dsimp only at b1 b2
            have hg1 : GlobOK E I1 w1 := hg.ext a3 hr
            have hlb : (wput w1 k (.loop { l1 with state := .busy, pending := none })).heap[k]? = some (.loop { l1 with state := .busy, pending := none }) := wput_same i1
            obtain ⟨I2, ι2, w2, tm2, ds2, c1, c2, c3, c4, c5, _, _, c8⟩ := rok.code f body _ ex st2 hbody h10 (some k) I1 ι1 _ tm1 b1 ⟨a2.len, fun i x v p q => b2.vr a1 (a2.at_ i x v p q)⟩ (hg1.ext b2 a1) (fun l' e => by cases e; exact ⟨_, hlb⟩)
            have hd2 := c5 k rfl
            subst hd2
            have hb2 : ι2 b = some (k, o, e) := c3.inj b _ hb1
            have hbr2 := c1.blk b _ hb2
            rw [hgb2] at hbr2
            obtain ⟨l2, k1, k2, k3, k4, k5, k6, k7, k8, k9, k10⟩ := hbr2
            dsimp only at k1
            obtain ⟨jump, hjump⟩ : ∃ jump : Option Code, jump = ex.jump := ⟨_, rfl⟩
            rw [← hjump]
            obtain ⟨d1, d2⟩ := putLoop c1 hb2 hgb2 (l := l2) k1 (if jump.isNone then .ready else .done) jump
            dsimp only at d1 d2
            refine ⟨I2, ι2, _, .bool jump.isNone, d1, VR.leaf _, ((a3.trans b2).trans c3).trans d2, fun id hlt _ => ?_, ?_⟩
            · rw [c4 id (by rw [Heap.n_set]; exact Nat.lt_of_lt_of_le hlt a3.n), a4 id hlt]
            · have hps : vs.toArray.size = l.params.size := by
                have e1 := hs.len; have e2 : l.params.toList.length = params.length := by rw [h5]
                simp at e2 ⊢; omega
              refine ⟨_, _, _, _, run_yield' h1 hps, ?_⟩
              intro c cs
              have hfold : ((l.params.zip vs.toArray).foldl (fun tmps (t, a) => tmps.setIfInBounds t a) l.tmps) = ((params.zip vs).foldl (fun t (p, v) => t.set p v) l.tmps.toList).toArray := by
                apply Array.ext'
                have := foldl_set_arr params vs l.tmps
                rw [← this, ← h5]
                rw [← Array.foldl_toList]
                simp
              rw [hfold, h4, h6, h7]
              let fr : Frame := { (default : Frame) with fn := f, kind := .normal, roundOf := some k }
              have hround : ∀ tms, Frame.round k f tms asg body .normal = fr.atR ⟨tms, []⟩ (.code asg :: .beginRound :: .code body :: []) := fun tms => by simp [Frame.round, Frame.atR, fr]
              rw [hround]
              have s1 := a8 fr (.beginRound :: .code body :: []) (c :: cs) [] rfl rfl rfl
              simp only [Arr, marksOf, List.map_nil, List.append_nil] at s1
              have hst : l1.state = .ready := i2
              have hbeg := run_beginRound' (P := P) i1 hst
              have hpe : (wput w1 k (.loop { l1 with state := .busy })) = wput w1 k (.loop { l1 with state := .busy, pending := none }) := by
                have : ({ l1 with state := LoopState.busy } : Loop) = { l1 with state := .busy, pending := none } := by cases l1; simp_all
                rw [this]
              rw [hpe] at hbeg
              have s2 : Steps P (lone (fr.atR ⟨tm1.toArray, []⟩ (.beginRound :: .code body :: [])) (c :: cs) w1) (lone (fr.atR ⟨tm1.toArray, []⟩ (.code body :: [])) (c :: cs) (wput w1 k (.loop { l1 with state := .busy, pending := none }))) :=
                .one (stepR_beginRound (l := k) rfl hbeg)
              have s3 := c8 fr [] (c :: cs) [] rfl rfl rfl
              refine s1.trans (s2.trans ?_)
              have hend := run_endRound' (P := P) jump k1
              cases ex with
              | normal =>
                simp only [Arr, marksOf, List.map_nil, List.append_nil] at s3
                subst hjump
                exact s3.trans (.one (stepR_round_end (l := k) rfl rfl hend))
              | exit id =>
                simp only [Arr, marksOf, List.map_nil, List.append_nil] at s3
                obtain ⟨kk, e1, s3⟩ := s3
                subst hjump
                exact s3.trans (.one (stepR_round_exit (l := k) rfl rfl (by rw [e1]; rfl) hend))
              | ret =>
                simp only [Arr, marksOf, List.map_nil, List.append_nil] at s3
                obtain ⟨kk, s3⟩ := s3
                subst hjump
                exact s3.trans (.one (stepR_round_ret (l := k) rfl rfl hend))
          · cases hex
        · cases hex
      · cases hex
    · cases hex
  · cases hex

omit hk rok in
theorem valueCall_resolve {f : Operand} {ρm : Operand → Value} {o : Oper} {c : Call} (hc : o.op = .call c) (hcal : c.callee = .value f) {fn : Fn} {caps : Array Value} (hf : ρm f = .func fn #[] caps) :
    (execOp ρm o).run P w = (invoke (.fn fn caps) (c.args.map ρm)).run P w := by
  unfold execOp
  rw [hc]
  simp only [resolve, hcal, hf, Deferred.ofValue, Sem.run_bind, Sem.run_pure, Result.andThen_ok]
  simp

theorem call_sim (hr : RelH I ι H w) (hg : GlobOK E I w) {ρ : Operand → AV} {ρm : Operand → Value} (hs : Same I ι w ρ ρm) (hfn : ∀ g, ρm (.func g) = .func (.func g) #[] #[]) {o : Oper} (hnc : Oper.isCall o = true) {A : Action} (h : act E r ρ o.op = some A)
    {rid : Option Nat} {v : AV} {H' : Heap} (hex : A.exec rid H = some (v, H')) : Post I ι H w rid H' v fun w' vm => Acts P (execOp ρm o) w vm w' := by
  obtain ⟨dst, op, type, pos, after, guard⟩ := o
  unfold Oper.isCall at hnc
  dsimp only at hnc
  split at hnc
  case h_2 => simp at hnc
  rename_i c
  split at hnc
  case h_2 => simp at hnc
  rename_i f hcal
  have hsf := hs f
  have hargs := same_map hs c.args.toList
  have harr : c.args.map ρm = (c.args.toList.map ρm).toArray := by apply Array.ext'; simp
  have fin : ∀ (g : FuncId) (us : List Value) (all : List AV), ρm f = .func (.func g) #[] us.toArray → VRs I ι w all (c.args.toList.map ρm ++ us) → callA E r g all = some A →
      Post I ι H w rid H' v fun w' vm => Acts P (execOp ρm ⟨dst, .call c, type, pos, after, guard⟩) w vm w' := by
    intro g us all hq hall hA
    refine (callA_sim hk rok hr hg hall hA hex).imp fun w' vm hh => ?_
    have hres := valueCall_resolve (P := P) (w := w) ok (o := ⟨dst, .call c, type, pos, after, guard⟩) rfl hcal hq
    have hinv : ∀ W, (invoke (.fn (.func g) us.toArray) (c.args.map ρm)).run P W = (callFunc g (c.args.toList.map ρm ++ us).toArray).run P W := by
      intro W; unfold invoke; rw [harr]; simp
    rcases hh with ⟨h1, h2⟩ | h1
    · exact .inr (.inl ⟨g, (c.args.toList.map ρm ++ us).toArray, by rw [hres, hinv]; exact h1 _ _, by simpa using h2⟩)
    · exact .inl (.inl (by rw [hres, hinv]; exact h1))
  unfold act at h
  dsimp only at h
  unfold callOp at h
  rw [hcal] at h
  have gen : valueCall E r (ρ f) (c.args.toList.map ρ) = some A → Post I ι H w rid H' v fun w' vm => Acts P (execOp ρm ⟨dst, .call c, type, pos, after, guard⟩) w vm w' := by
    intro h
    unfold valueCall at h
    split at h
    · rename_i g hf
      rw [hf] at hsf
      generalize hq : ρm f = q at hsf
      cases hsf with
      | d hd =>
        cases hd with
        | fn _ _ us hl hv =>
          have : us = [] := by simpa using hl
          subst this
          exact fin g [] _ hq (by simpa using hargs) h
    · rename_i g caps _ hf
      rw [hf] at hsf
      generalize hq : ρm f = q at hsf
      cases hsf with
      | d hd =>
        cases hd with
        | fn _ _ us hl hv => exact fin g us _ hq (hargs.append (vrs_ofD (ι := ι) (by omega) hv)) h
    · rename_i g caps hf
      rw [hf] at hsf
      generalize hq : ρm f = q at hsf
      cases hsf with
      | fn hl hv =>
        rename_i us
        exact fin g us _ hq (hargs.append (⟨hl, hv⟩ : VRs I ι w caps us)) h
    · rename_i b hf
      cases h
      rw [hf] at hsf
      generalize hq : ρm f = q at hsf
      cases hsf with
      | yield hb =>
        refine (yieldA_sim rok hr hg hargs hb hex).imp fun w' vm hh => ?_
        obtain ⟨ff, tmps, aa, cc, h1, h2⟩ := hh
        have hres := valueCall_resolve (P := P) (w := w) ok (o := ⟨dst, .call c, type, pos, after, guard⟩) rfl hcal hq
        refine .inr (.inr ⟨_, ff, tmps, aa, cc, ?_, h2⟩)
        rw [hres]
        unfold invoke
        rw [harr]; exact h1
    · cases h
  cases f with
  | func g => exact fin g [] _ (hfn g) (by simpa using hargs) h
  | tmp i => exact gen h
  | const u => exact gen h
  | global u => exact gen h

/-- Every operation. -/
theorem act_sim (hr : RelH I ι H w) (hg : GlobOK E I w) {ρ : Operand → AV} {ρm : Operand → Value} (hs : Same I ι w ρ ρm) (hfn : ∀ g, ρm (.func g) = .func (.func g) #[] #[]) {o : Oper} {A : Action} (h : act E r ρ o.op = some A)
    {rid : Option Nat} (hrid : ∀ id, rid = some id → ι id = none) {v : AV} {H' : Heap} (hex : A.exec rid H = some (v, H')) : Post I ι H w rid H' v fun w' vm => Acts P (execOp ρm o) w vm w' := by
  cases hc : Oper.isCall o with
  | true => exact call_sim ok hk rok hr hg hs hfn hc h hex
  | false => exact (act_base ok hr hg hs r hc h hrid hex).imp fun w' vm hh => .inl hh
end

-- ---------------------------------------------------------------- operations in a frame
theorem stepGR_finish {b : Frame} {a : Act} {ops : Array Oper} {i : Nat} {rest : List Nat} {k : List Item} {o : Oper} (ho : ops[i]? = some o) (v : Value) :
    (b.atR a (.inRegion ops (i :: rest) :: k)).finish v = b.atR (a.put o.dst v) (.inRegion ops rest :: k) := by
  rw [Frame.finish_atR, ho]; rfl

theorem opRun {P : Program} {tm : List Value} {o : Oper} {w w' : World} {v : Value} (hnd : ∀ c, o.op ≠ .defer c) (h : Acts P (execOp (evalM tm) o) w v w') {b : Frame} (hbk : b.kind = .normal) {dfs : List Deferred} {k : List Item} {cs : List Frame} {ops : Array Oper} {i : Nat} {rest : List Nat}
    (ho : ops[i]? = some o) (hw : Region.wanted o (yielded ops tm.toArray) = true) :
    Steps P (lone (b.atR ⟨tm.toArray, dfs⟩ (.inRegion ops (i :: rest) :: k)) cs w) (lone (b.atR (Act.put ⟨tm.toArray, dfs⟩ o.dst v) (.inRegion ops rest :: k)) cs w') := by
  have hg := stepGR_op (P := P) (b := b) (a := ⟨tm.toArray, dfs⟩) (k := k) (cs := cs) (w := w) (rest := rest) ho hw
  rw [Oper.semAt_eq _ _ _ hnd, evalM_eq] at hg
  rcases h with (h | ⟨h, rfl⟩) | ⟨f, args, h1, h2⟩ | ⟨l, f, tmps, a, c, h1, h2⟩
  · refine .one (step_lone_go ?_)
    rw [hg, ← stepGR_finish ho]; simp [stepG.apply, Sem.runT_eq, h]
  · refine .one (step_lone_go ?_)
    rw [hg, ← stepGR_finish ho]; simp [stepG.apply, Sem.runT_eq, h]
  · have henter : step P (lone (b.atR ⟨tm.toArray, dfs⟩ (.inRegion ops (i :: rest) :: k)) cs w) = .next (lone (Frame.enter P f args .normal) (b.atR ⟨tm.toArray, dfs⟩ (.inRegion ops (i :: rest) :: k) :: cs) w) :=
      step_lone_go (by rw [hg]; simp [stepG.apply, Sem.runT_eq, h1, Frame.atR])
    have := h2.back (b.atR ⟨tm.toArray, dfs⟩ (.inRegion ops (i :: rest) :: k)) cs
    rw [Array.toArray_toList, stepGR_finish ho] at this
    exact .head henter this
  · have henter : step P (lone (b.atR ⟨tm.toArray, dfs⟩ (.inRegion ops (i :: rest) :: k)) cs w) = .next (lone (Frame.round l f tmps a c .normal) (b.atR ⟨tm.toArray, dfs⟩ (.inRegion ops (i :: rest) :: k) :: cs) w) :=
      step_lone_go (by rw [hg]; simp [stepG.apply, Sem.runT_eq, h1, Frame.atR])
    have := h2 (b.atR ⟨tm.toArray, dfs⟩ (.inRegion ops (i :: rest) :: k)) cs
    rw [stepGR_finish ho] at this
    exact .head henter this

theorem act_nodefer {E : Env} {r : Rec} {ρ : Operand → AV} {o : Oper} {A : Action} (h : act E r ρ o.op = some A) : ∀ c, o.op ≠ .defer c := by
  intro c hc
  unfold act at h
  rw [hc] at h
  cases h

theorem put_toArray (tm : List Value) (dfs : List Deferred) (dst : Option Tmp) (v : Value) : Act.put ⟨tm.toArray, dfs⟩ dst v = ⟨(match dst with | some d => tm.set d v | none => tm).toArray, dfs⟩ := by
  cases dst <;> simp [Act.put]

def putM (tm : List Value) (dst : Option Tmp) (v : Value) : List Value :=
  match dst with
  | some d => tm.set d v
  | none => tm

theorem put_tr {I : Imm} {ι : Inj} {w : World} {t : Tm} {tm : List Value} (h : TR I ι w t tm) {x : AV} {v : Value} (hx : VR I ι w x v) (dst : Option Tmp) : TR I ι w (put t dst x) (putM tm dst v) := by
  cases dst with
  | none => exact h
  | some d => exact h.set hx d

theorem wanted_eq {I : Imm} {ι : Inj} {w : World} {ops : Array Oper} {t : Tm} {tm : List Value} (h : TR I ι w t tm) (o : Oper) : wantedA ops.toList t o = Region.wanted o (yielded ops tm.toArray) := by
  unfold wantedA Region.wanted
  cases o.guard with
  | none => rfl
  | some g =>
    obtain ⟨j, want⟩ := g
    dsimp only
    unfold yielded
    rw [nth_eq, Array.getElem?_toList]
    cases hp : ops[j]? with
    | none => simp
    | some p =>
    dsimp only [Option.bind_some]
    cases hd : p.dst with
    | none => rfl
    | some d =>
      simp only [Option.bind_some, List.getElem?_toArray]
      have hv := h.get d
      cases ht : tm[d]? with
      | none =>
        have : Tm.get t d = undefA := by
          unfold Tm.get
          cases hg : T.get t d with
          | none => rfl
          | some x =>
            have := (h.len d).1 (by rw [hg]; rfl)
            rw [List.getElem?_eq_none_iff] at ht; omega
        rw [this]; rfl
      | some u =>
        rw [ht] at hv
        simp only [Option.getD_some] at hv
        generalize Tm.get t d = x at hv
        cases x with
        | d y =>
          cases y with
          | leaf u' =>
            have := vr_leaf hv; subst this
            cases u <;> rfl
          | lit n cs => cases hv with | d h => cases h <;> rfl
          | fn f c => cases hv with | d h => cases h; rfl
          | ptr cs => cases hv with | d h => cases h; rfl
        | _ => cases hv <;> rfl
end Go.Ab
