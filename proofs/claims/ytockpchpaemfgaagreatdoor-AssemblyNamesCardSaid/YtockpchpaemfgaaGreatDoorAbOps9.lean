/- Every operation but the calls of functions, together. -/
import Derived.Test.YtockpchpaemfgaaGreatDoorAbOps8
set_option linter.all false
namespace Go.Ab

def Oper.isCall (o : Oper) : Bool :=
  match o.op with
  | .call c => match c.callee with
    | .value _ => true
    | _ => false
  | _ => false

section
variable {P : Program} {E : Env} (ok : EnvOK P E) {I : Imm} {ι : Inj} {H : Heap} {w : World}
include ok

theorem post_pure {rid : Option Nat} {H' : Heap} {v z : AV} {R : World → Value → Prop} (hr : RelH I ι H w) (hex : (Action.ret z).exec rid H = some (v, H')) (h : ∃ zv, R w zv ∧ VR I ι w z zv) : Post I ι H w rid H' v R := by
  cases hex
  obtain ⟨zv, h1, h2⟩ := h
  exact Post.same hr h2 h1

omit ok in
theorem Post.imp {rid : Option Nat} {H' : Heap} {v : AV} {R R' : World → Value → Prop} (h : Post I ι H w rid H' v R) (hi : ∀ w' vm, R w' vm → R' w' vm) : Post I ι H w rid H' v R' := by
  obtain ⟨I', ι', w', vm, a, b, c, d, e⟩ := h
  exact ⟨I', ι', w', vm, a, b, c, d, hi _ _ e⟩

theorem builtinA_run (hr : RelH I ι H w) {b : Builtin} {ats : Array TypeId} {args : List AV} {vs : List Value} (hs : VRs I ι w args vs) {A : Action} (h : builtinA E b ats args = some A) {rid : Option Nat} (hrid : ∀ id, rid = some id → ι id = none) {v : AV} {H' : Heap} (hex : A.exec rid H = some (v, H')) (ty : TypeId) (consts : Array Bool) :
    Post I ι H w rid H' v fun w' vm => (builtin b ats ty consts vs.toArray).run P w = .ok (.value vm) w' := by
  have up : ∀ {s : Sem Value} {w' : World} {vm : Value}, s.run P w = .ok vm w' → ((do pure (.value (← s))) : Sem Next).run P w = .ok (.value vm) w' := fun h => by simp only [Sem.run_bind, h, Result.andThen_ok, Sem.run_pure]
  unfold builtinA at h
  split at h
  · rename_i x
    obtain ⟨xv, vs', rfl, hx, h2⟩ := hs.uncons
    have := h2.unnil; subst this
    rw [nth_eq] at h
    cases ht : ats.toList[0]? with
    | none => rw [ht] at h; cases h
    | some t =>
      rw [ht] at h
      have ht : ats[0]? = some t := by simpa using ht
      exact (lenA_run ok hr (ty := ty) ht hx h hex).imp fun w' vm hh => up hh
  · rename_i x
    obtain ⟨xv, vs', rfl, hx, h2⟩ := hs.uncons
    have := h2.unnil; subst this
    rw [nth_eq] at h
    cases ht : ats.toList[0]? with
    | none => rw [ht] at h; cases h
    | some t =>
      rw [ht] at h
      have ht : ats[0]? = some t := by simpa using ht
      dsimp only at h
      cases hc : capA E t x with
      | none => rw [hc] at h; cases h
      | some z =>
        rw [hc] at h; cases h
        obtain ⟨zv, a, b⟩ := capA_run (P := P) (ty := ty) ok ht hc hx
        exact post_pure ok hr hex ⟨zv, up a, b⟩
  · rename_i s x
    obtain ⟨sv, vs', rfl, hsv, h2⟩ := hs.uncons
    obtain ⟨xv, vs'', rfl, hxv, h3⟩ := h2.uncons
    have := h3.unnil; subst this
    split at h
    · rename_i t u rest hts
      have ht : ats[0]? = some t := by rw [← Array.getElem?_toList, hts]; rfl
      have hu : ats[1]? = some u := by rw [← Array.getElem?_toList, hts]; rfl
      split at h
      · rename_i ui hui
        split at h
        · rename_i k hk
          exact (extendA_run ok hr hui hk (ty := ty) ht hu hsv hxv h hrid hex).imp fun w' vm hh => up hh
        · rename_i hnz
          exact (appendA_run ok hr hui (fun k hk => hnz k hk) (ty := ty) ht hu hsv hxv h hrid hex).imp fun w' vm hh => up hh
      · cases h
    · cases h
  · rename_i d s
    obtain ⟨dv, vs', rfl, hdv, h2⟩ := hs.uncons
    obtain ⟨sv, vs'', rfl, hsv, h3⟩ := h2.uncons
    have := h3.unnil; subst this
    rw [nth_eq] at h
    cases ht : ats.toList[0]? with
    | none => rw [ht] at h; cases h
    | some t =>
      rw [ht] at h
      have ht : ats[0]? = some t := by simpa using ht
      exact (copyA_run ok hr (ty := ty) ht hdv hsv h hex).imp fun w' vm hh => up hh
  · rename_i k a rest
    obtain ⟨xv, vs', rfl, hx, h2⟩ := hs.uncons
    cases hf : foldInt intMin (leaf (.int k a)) rest with
    | none => rw [hf] at h; cases h
    | some z =>
      rw [hf] at h; cases h
      obtain ⟨zv, a, b⟩ := foldMin_run (P := P) hf hx h2
      exact post_pure ok hr hex ⟨zv, up (by unfold Builtin.min_; exact a), b⟩
  · rename_i k a rest
    obtain ⟨xv, vs', rfl, hx, h2⟩ := hs.uncons
    cases hf : foldInt intMax (leaf (.int k a)) rest with
    | none => rw [hf] at h; cases h
    | some z =>
      rw [hf] at h; cases h
      obtain ⟨zv, a, b⟩ := foldMax_run (P := P) hf hx h2
      exact post_pure ok hr hex ⟨zv, up (by unfold Builtin.max_; exact a), b⟩
  · cases h

theorem act_base (hr : RelH I ι H w) (hg : GlobOK E I w) {ρ : Operand → AV} {ρm : Operand → Value} (hs : Same I ι w ρ ρm) (r : Rec) {o : Oper} (hnc : Oper.isCall o = false) {A : Action} (h : act E r ρ o.op = some A)
    {rid : Option Nat} (hrid : ∀ id, rid = some id → ι id = none) {v : AV} {H' : Heap} (hex : A.exec rid H = some (v, H')) : Post I ι H w rid H' v fun w' vm => Does P (execOp ρm o) w w' vm := by
  obtain ⟨dst, op, type, pos, after, guard⟩ := o
  unfold act at h
  dsimp only at h
  cases op <;> (try simp only [Option.some.injEq, reduceCtorEq] at h)
  case move x => subst h; exact post_pure ok hr hex ⟨ρm x, .inl rfl, hs x⟩
  case assign x => subst h; exact post_pure ok hr hex ⟨ρm x, .inl rfl, hs x⟩
  case pick c a b =>
    unfold pickA at h
    cases hb : asBool (ρ c) with
    | none => rw [hb] at h; cases h
    | some t =>
      rw [hb] at h
      have h : A = .ret (if t then ρ a else ρ b) := by cases t <;> (cases h; rfl)
      subst h
      have hc := asBool_spec hb (hs c)
      refine post_pure ok hr hex ⟨if t then ρm a else ρm b, .inl ?_, by cases t; exact hs b; exact hs a⟩
      simp only [execOp, hc, Go.asBool, Sem.run_bind, Sem.run_pure, Result.andThen_ok]
  case alloc t =>
    unfold allocA at h
    cases ht : E.ty t with
    | none => rw [ht] at h; cases h
    | some ti =>
      rw [ht] at h; cases h
      rw [ok.za t ti ht] at hex
      obtain ⟨z, hz1, hz2, _⟩ := run_zeroValue' (P := P) (w := w) ok ht
      refine new_cells_post (e := t) hr (VRs.leafs ti.zero) hrid hex (vm := .pointer (some ⟨w.heap.size, 0, none⟩)) (fun id ι' hi => by have := VR.ptr (I := I) (w := wpush w (.cells ti.zero.toArray t)) (off := 0) hi; simpa using this) (does_v ?_)
      simp only [Instr.alloc, Sem.run_bind, hz1, Result.andThen_ok, newVar, newRow, run_newObj, Sem.run_pure]
      have : z.cells = ti.zero.toArray := by apply Array.ext'; exact hz2
      rw [this]
  case box t x =>
    unfold boxA at h
    split at h
    · rename_i hc
      cases h
      rw [allCells_eq] at hc
      have hv := vr_cells (hs x) hc
      refine new_cells_post (e := t) hr hv hrid hex (vm := .pointer (some ⟨w.heap.size, 0, none⟩)) (fun id ι' hi => by have := VR.ptr (I := I) (w := wpush w (.cells (ρm x).cells.toList.toArray t)) (off := 0) hi; simpa using this) (does_v ?_)
      simp only [Instr.box, Sem.run_bind, newVar, newRow, run_newObj, Result.andThen_ok, Sem.run_pure]
    · cases h
  case build t parts =>
    unfold buildA at h
    cases ht : E.ty t with
    | none => rw [ht] at h; cases h
    | some ti =>
      rw [ht] at h; dsimp only at h
      obtain ⟨z, hz1, hz2, _⟩ := run_zeroValue' (P := P) (w := w) ok ht
      have hzc : z.cells = ti.zero.toArray := by apply Array.ext'; exact hz2
      have hp1 : ((parts.toList.map fun (i, x) => (i, ρm x)).map (·.1)) = ((parts.toList.map fun (i, x) => (i, ρ x)).map (·.1)) := by
        rw [List.map_map, List.map_map]; rfl
      have hp2 : VRs I ι w ((parts.toList.map fun (i, x) => (i, ρ x)).map (·.2)) ((parts.toList.map fun (i, x) => (i, ρm x)).map (·.2)) := by
        rw [List.map_map, List.map_map]
        have := same_map hs (parts.toList.map (·.2))
        rw [List.map_map, List.map_map] at this
        exact this
      have htl : (parts.map fun (i, x) => (i, ρm x)).toList = (parts.toList.map fun (i, x) => (i, ρm x)) := by simp
      split at h
      · rename_i fields hd
        rw [ok.za t ti ht] at h
        cases hf : fill (fun i => nth ti.places i) (ti.zero.map leaf) (parts.toList.map fun (i, x) => (i, ρ x)) with
        | none => rw [hf] at h; cases h
        | some cs =>
          rw [hf] at h; cases h
          obtain ⟨cm, h1, h2⟩ := fill_run (placem := fun i => ti.places.toArray[i]?) (fun i x hx => by rw [nth_eq] at hx; simpa using hx) _ _ _ _ ti.zero hp1 hp2 (VRs.leafs _) hf
          refine post_pure ok hr hex ⟨.agg cm.toArray, does_v ?_, VR.agg' h2⟩
          simp only [Instr.build, Sem.run_bind, hz1, Result.andThen_ok, run_underlying' ok ht, hd, ok.places t ti fields ht hd, hzc, htl]
          have h1' : Instr.fill (fun x => ti.places.toArray[x]?) ti.zero.toArray (parts.toList.map fun (i, x) => (i, ρm x)) = some cm.toArray := h1
          rw [h1']; rfl
      · rename_i n el hd
        split at h
        · rename_i eti he
          rw [ok.za t ti ht] at h
          cases hf : fill (fun i => some (Nat.mul i eti.size, eti.size)) (ti.zero.map leaf) (parts.toList.map fun (i, x) => (i, ρ x)) with
          | none => rw [hf] at h; cases h
          | some cs =>
            rw [hf] at h; cases h
            obtain ⟨cm, h1, h2⟩ := fill_run (placem := fun i => some (i * eti.size, eti.size)) (fun i x hx => hx) _ _ _ _ ti.zero hp1 hp2 (VRs.leafs _) hf
            refine post_pure ok hr hex ⟨.agg cm.toArray, does_v ?_, VR.agg' h2⟩
            simp only [Instr.build, Sem.run_bind, hz1, Result.andThen_ok, run_underlying' ok ht, hd, run_sizeOf' ok he, hzc, htl, h1, Sem.run_pure]
        · cases h
      · cases h
  case buildSlice t len parts =>
    unfold buildSliceA at h
    cases ht : E.ty t with
    | none => rw [ht] at h; cases h
    | some ti =>
      rw [ht] at h; dsimp only at h
      split at h
      · rename_i el hd
        split at h
        · rename_i eti he
          split at h
          case h_2 => cases h
          rename_i hc1 hc2 hc3
          have hc1 : len * eti.size ≤ 16777216 := of_nble hc1
          have hc2 := of_nbeq_f hc2
          have hc3 := (lenIs_eq _ _).1 hc3
          rw [ok.za el eti he] at h
          split at h
          · rename_i cs hf
            split at h
            · cases h
              obtain ⟨z, hz1, hz2, _⟩ := run_zeroValue' (P := P) (w := w) ok he
              have hzc : z.cells = eti.zero.toArray := by apply Array.ext'; exact hz2
              have hp1 : ((parts.toList.map fun (i, x) => (i, ρm x)).map (·.1)) = ((parts.toList.map fun (i, x) => (i, ρ x)).map (·.1)) := by
                rw [List.map_map, List.map_map]; rfl
              have hp2 : VRs I ι w ((parts.toList.map fun (i, x) => (i, ρ x)).map (·.2)) ((parts.toList.map fun (i, x) => (i, ρm x)).map (·.2)) := by
                rw [List.map_map, List.map_map]
                have := same_map hs (parts.toList.map (·.2))
                rw [List.map_map, List.map_map] at this
                exact this
              have htl : (parts.map fun (i, x) => (i, ρm x)).toList = (parts.toList.map fun (i, x) => (i, ρm x)) := by simp
              have hz0 : VRs I ι w (List.replicate len (eti.zero.map leaf)).flatten (List.replicate len eti.zero).flatten := by
                refine vrs_flatten (by simp) fun i x v hx hv => ?_
                simp only [List.getElem?_replicate] at hx hv
                split at hx <;> simp_all
                subst hx hv
                exact VRs.leafs _
              obtain ⟨cm, h1, h2⟩ := fill_run (placem := fun i => some (i * eti.size, eti.size)) (fun i x hx => hx) _ _ _ _ _ hp1 hp2 hz0 hf
              refine new_cells_post (e := el) hr h2 hrid hex (vm := .slice (some ⟨w.heap.size, 0, none⟩) len len) (fun id ι' hi => .sl hi (Nat.le_refl _) (by simp) (.inr rfl) (by simp)) (does_v ?_)
              simp only [Instr.buildSlice, Sem.run_bind, run_underlying' ok ht, hd, Result.andThen_ok, run_sizeOf' ok he]
              rw [if_neg (by omega)]
              have hzne : eti.zero ≠ [] := by intro e; rw [e] at hc3; simp at hc3; omega
              have harr : ((Array.range (len * eti.size)).map (z.cells[· % z.cells.size]!)) = ((List.replicate len eti.zero).flatten).toArray := by
                apply Array.ext'
                have := zero_rep (n := len) hzne z.cells hz2
                rw [hc3] at this; exact this
              by_cases h0 : len * eti.size = 0
              · have hl0 : len = 0 := by rcases Nat.mul_eq_zero.1 h0 with h | h <;> omega
                subst hl0
                have e0 : ∀ g : Nat → Value, Array.map g (Array.range 0) = #[] := fun g => by apply Array.ext'; simp
                simp only [Nat.zero_mul, if_true, Sem.run_pure, Result.andThen_ok, Sem.run_bind, e0, htl]
                simp only [List.replicate_zero, List.flatten_nil] at h1
                rw [h1]
                simp only [Sem.run_bind, newRow, run_newObj, Sem.run_pure, Result.andThen_ok]
              · simp only [h0, if_false, Sem.run_bind, hz1, Result.andThen_ok, Sem.run_pure, harr, htl, h1, newRow, run_newObj]
            · cases h
          · cases h
        · cases h
      · cases h
  case load t a =>
    unfold loadA at h
    cases ht : E.ty t with
    | none => rw [ht] at h; cases h
    | some ti =>
      rw [ht] at h; dsimp only at h
      have hsa := hs a
      split at h
      · rename_i b off ha
        cases h
        rw [ha] at hsa
        simp only [Action.exec] at hex
        split at hex
        · rename_i cs hg'
          split at hex
          · rename_i ds hcut
            cases hof : ofCells ti.agg ds with
            | none => rw [hof] at hex; cases hex
            | some z =>
              rw [hof] at hex; cases hex
              generalize hq : ρm a = pv at hsa
              cases hsa with
              | ptr hb =>
                obtain ⟨vs, h1, h2⟩ := br_cut hr hb hg' hcut
                obtain ⟨zv, h3, h4⟩ := ofCells_run (P := P) ok ht hof (cut_spec hcut).2.2 h1 h2
                exact Post.same hr h4 (does_v (by simp only [Instr.loadAt, hq, Instr.sureAddr, Sem.run_bind, Sem.run_pure, Result.andThen_ok]; exact h3))
          · cases hex
        · cases hex
      · rename_i ds ha
        rw [ha] at hsa
        split at h
        · rename_i es hcut
          have hcut := front_cut hcut
          unfold retO at h
          cases hof : ofCells ti.agg (es.map .d) with
          | none => rw [hof] at h; cases h
          | some z =>
            rw [hof] at h; cases h
            generalize hq : ρm a = pv at hsa
            obtain ⟨blk, off, e3, hcd⟩ := vr_ptr hsa
            subst e3
            · obtain ⟨vs, h1, h2⟩ := cellsD_take (ι := ι) hcd hcut
              obtain ⟨zv, h3, h4⟩ := ofCells_run (P := P) ok ht hof (by simp; exact (cut_spec hcut).2.2) h1 (fun j v hj => (h2 j v hj).1)
              exact post_pure ok hr hex ⟨zv, does_v (by simp only [Instr.loadAt, hq, Instr.sureAddr, Sem.run_bind, Sem.run_pure, Result.andThen_ok]; exact h3), h4⟩
        · cases h
      · rename_i gv ha
        rw [ha] at hsa
        have e := vr_leaf hsa
        split at h
        · rename_i ds hgl
          split at h
          · rename_i es hcut
            have hcut := front_cut hcut
            unfold retO at h
            cases hof : ofCells ti.agg (es.map .d) with
            | none => rw [hof] at h; cases h
            | some z =>
              rw [hof] at h; cases h
              obtain ⟨blk, e2, hcd⟩ := globCells_spec ok hg hgl
              have hq := e.trans e2
              obtain ⟨vs, h1, h2⟩ := cellsD_take (ι := ι) hcd hcut
              obtain ⟨zv, h3, h4⟩ := ofCells_run (P := P) ok ht hof (by simp; exact (cut_spec hcut).2.2) h1 (fun j v hj => (h2 j v hj).1)
              exact post_pure ok hr hex ⟨zv, does_v (by simp only [Instr.loadAt, hq, Instr.sureAddr, Sem.run_bind, Sem.run_pure, Result.andThen_ok]; exact h3), h4⟩
          · cases h
        · cases h
      · cases h
  case store t a x =>
    unfold storeA at h
    cases ht : E.ty t with
    | none => rw [ht] at h; cases h
    | some ti =>
      rw [ht] at h; dsimp only at h
      have hsa := hs a
      split at h
      · rename_i b off ha
        rw [ha] at hsa
        split at h
        · rename_i hc1 hc2
          have hc1 := (lenIs_eq _ _).1 hc1
          rw [allCells_eq] at hc2
          cases h
          simp only [Action.exec] at hex
          split at hex
          · rename_i m cs hg'
            cases hml : Nat.ble m off with
            | false => rw [hml] at hex; cases hex
            | true =>
            rw [hml] at hex
            simp only [cond_true] at hex
            have hml : m ≤ off := of_nble hml
            split at hex
            · rename_i cs2 hsp
              obtain ⟨hle, rfl⟩ := splice_some hsp
              cases hex
              have hv := vr_cells (hs x) hc2
              have hone := vrs_oneCell hv hc2
              generalize hq : ρm a = pv at hsa
              cases hsa with
              | ptr hb =>
                rename_i k o e
                have hbr := hr.blk b _ hb
                rw [hg'] at hbr
                have hce : cs.length ≤ e := hbr.2.1
                obtain ⟨a1, a2, a3, a4⟩ := putCells (P := P) hr hb hg' (p := off) (cs2 := spl cs off (ρ x).cells) hml (by rw [spl_length hle]; exact hbr.1) hv hone (by omega) (by rw [spl_length hle]; exact hce) (splice_cases hle)
                refine ⟨I, ι, _, undef, a2, VR.undef, a3, fun _ _ _ => rfl, does_u ?_⟩
                simp only [Instr.storeAt, hq, Instr.sureAddr, Sem.run_bind, Sem.run_pure, Result.andThen_ok, storeVar, run_sizeOf' ok ht]
                have hl : (ρm x).cells.size = ti.size := by have := hv.len; simp at this; omega
                rw [if_neg (by simp [hl])]
                exact a1
            · cases hex
          · cases hex
        · cases h
      · cases h
  case nilCheck x =>
    have hsx := hs x
    unfold nilCheckA at h
    split at h
    · rename_i b o hx; cases h; rw [hx] at hsx
      generalize hq : ρm x = q at hsx
      cases hsx with
      | ptr hb => exact post_pure ok hr hex ⟨_, .inl (by simp only [execOp, hq]; rfl), .ptr hb⟩
    · rename_i ds hx; cases h; rw [hx] at hsx
      generalize hq : ρm x = q at hsx
      obtain ⟨blk, off, e3, hcd⟩ := vr_ptr hsx
      subst e3
      exact post_pure ok hr hex ⟨_, .inl (by simp only [execOp, hq]; rfl), VR.ptrD hcd⟩
    · rename_i f c hx; cases h; rw [hx] at hsx
      generalize hq : ρm x = q at hsx
      cases hsx with
      | d hd => cases hd with
        | fn _ _ vs hl hv => exact post_pure ok hr hex ⟨_, .inl (by simp only [execOp, hq]; rfl), .d (.fn _ _ vs hl hv)⟩
    · rename_i f c hx; cases h; rw [hx] at hsx
      generalize hq : ρm x = q at hsx
      cases hsx with
      | fn hl hv => exact post_pure ok hr hex ⟨_, .inl (by simp only [execOp, hq]; rfl), .fn hl hv⟩
    · rename_i b hx; cases h; rw [hx] at hsx
      generalize hq : ρm x = q at hsx
      cases hsx with
      | yield hb => exact post_pure ok hr hex ⟨_, .inl (by simp only [execOp, hq]; rfl), .yield hb⟩
    · cases h
  case binOp bop t x y t2 =>
    unfold retO at h
    cases hb : binA E bop t (isLit x || isLit y) (ρ x) (ρ y) with
    | none => rw [hb] at h; cases h
    | some z =>
      rw [hb] at h; cases h
      obtain ⟨zv, h1, h2⟩ := binA_run (P := P) ok hb (hs x) (hs y)
      exact post_pure ok hr hex ⟨zv, does_v h1, h2⟩
  case unOp uop t x =>
    unfold retO at h
    cases hb : unA uop (ρ x) with
    | none => rw [hb] at h; cases h
    | some z =>
      rw [hb] at h; cases h
      obtain ⟨zv, h1, h2⟩ := unA_run (P := P) hb (hs x)
      exact post_pure ok hr hex ⟨zv, does_v h1, h2⟩
  case convert src dst x => exact (convA_run ok hr (hs x) h hrid hex).imp fun w' vm hh => does_v hh
  case makeInterface t x =>
    have hsx := hs x
    unfold mkIfaceA at h
    split at h
    · rename_i v' ti hx ht
      rw [hx] at hsx
      have e := vr_leaf hsx
      split at h
      · cases h
      · rename_i hni
        cases h
        refine post_pure ok hr hex ⟨.iface t v', does_v ?_, VR.leaf _⟩
        simp only [Instr.makeInterface, Sem.run_bind, run_underlying' ok ht, Result.andThen_ok, e]
        cases hd : ti.desc <;> first | rfl | exact absurd hd (hni _)
    · cases h
  case makeFunc fn first captured =>
    unfold makeFuncA at h
    split at h
    · rename_i f hf
      cases h
      have := VR.mkFn (f := f) (same_map hs captured.toList)
      refine post_pure ok hr hex ⟨_, .inl ?_, this⟩
      have hfe : first = #[] := by apply Array.ext'; simpa using hf
      subst hfe
      simp only [execOp, Instr.makeFunc, Sem.run_bind, Sem.run_pure, Result.andThen_ok]
      have e : captured.map ρm = (captured.toList.map ρm).toArray := by apply Array.ext'; simp
      rw [e]; simp
    · cases h
  case makeMap t rsv =>
    cases rsv <;> simp only [Option.some.injEq, reduceCtorEq] at h
    subst h
    refine new_map_post hr hrid hex (does_v ?_)
    simp only [Instr.makeMap, Sem.run_bind, run_newObj, Result.andThen_ok, Sem.run_pure, Option.map_none]
  case makeSlice t l c => exact (makeSliceA_run ok hr (hs l) (hs c) h hrid hex).imp fun w' vm hh => does_v hh
  case slice t x lo hi mx =>
    unfold retO at h
    cases hb : sliceA E t (ρ x) (lo.map ρ) (hi.map ρ) (mx.map ρ) with
    | none => rw [hb] at h; cases h
    | some z =>
      rw [hb] at h; cases h
      obtain ⟨zv, h1, h2⟩ := sliceA_run (P := P) ok (optR_map hs lo) (optR_map hs hi) (optR_map hs mx) hb (hs x)
      exact post_pure ok hr hex ⟨zv, does_v h1, h2⟩
  case fieldAddr t x f =>
    unfold retO at h
    cases hb : fieldAddrA E t (ρ x) f with
    | none => rw [hb] at h; cases h
    | some z =>
      rw [hb] at h; cases h
      obtain ⟨zv, h1, h2⟩ := fieldAddrA_run (P := P) ok hb (hs x)
      exact post_pure ok hr hex ⟨zv, does_v h1, h2⟩
  case field t x f =>
    have hsx := hs x
    unfold fieldA at h
    split at h
    · rename_i ti cs ht hx
      rw [hx] at hsx
      obtain ⟨vs, e, hvs⟩ := vr_agg hsx
      split at h
      · rename_i fields hd
        split at h
        · rename_i fd hf
          rw [nth_eq] at hf
          have hf : fields[f]? = some fd := by simpa using hf
          unfold retO at h
          cases hb : partA E fd.type cs fd.offset with
          | none => rw [hb] at h; cases h
          | some z =>
            rw [hb] at h; cases h
            obtain ⟨zv, h1, h2⟩ := partA_run (P := P) ok hb hvs
            refine post_pure ok hr hex ⟨zv, does_v ?_, h2⟩
            simp only [Instr.field, Sem.run_bind, run_underlying' ok ht, Result.andThen_ok, hd, hf, e, asAgg, Sem.run_pure]
            exact h1
        · cases h
      · cases h
    · cases h
  case indexAddr t x ix =>
    unfold retO at h
    cases hb : indexAddrA E t (ρ x) (ρ ix) with
    | none => rw [hb] at h; cases h
    | some z =>
      rw [hb] at h; cases h
      obtain ⟨zv, h1, h2⟩ := indexAddrA_run (P := P) ok hg hb (hs x) (hs ix)
      exact post_pure ok hr hex ⟨zv, does_v h1, h2⟩
  case index t x ix =>
    unfold retO at h
    cases hb : indexA E t (ρ x) (ρ ix) with
    | none => rw [hb] at h; cases h
    | some z =>
      rw [hb] at h; cases h
      obtain ⟨zv, h1, h2⟩ := indexA_run (P := P) ok hb (hs x) (hs ix)
      exact post_pure ok hr hex ⟨zv, does_v h1, h2⟩
  case lookup t x ix okk => exact (lookupA_run ok hr (hs x) (hs ix) h hex).imp fun w' vm hh => does_v hh
  case mapUpdate t m k x =>
    refine (mapUpdateA_run ok hr (hs m) (hs k) (hs x) h hex).imp fun w' vm hh => ?_
    obtain ⟨h1, rfl⟩ := hh
    exact does_u h1
  case insert t m k x =>
    refine (mapUpdateA_run ok hr (hs m) (hs k) (hs x) h hex).imp fun w' vm hh => ?_
    obtain ⟨h1, rfl⟩ := hh
    exact does_u h1
  case extract t ix =>
    have hsx := hs t
    unfold extractA at h
    split at h
    · rename_i vs hx
      rw [hx] at hsx
      obtain ⟨us, e, hus⟩ := vr_tup hsx
      rw [nth_eq] at h
      unfold retO at h
      cases hb : vs[ix]? with
      | none => rw [hb] at h; cases h
      | some z =>
        rw [hb] at h; cases h
        obtain ⟨u, h1, h2⟩ := hus.get hb
        refine post_pure ok hr hex ⟨u, does_v ?_, h2⟩
        simp only [Instr.extract, e, List.getElem?_toArray, h1, Sem.run_pure]
    · cases h
  case range t x => exact (rangeA_run ok hr (hs x) h hrid hex).imp fun w' vm hh => does_v hh
  case next x isS => exact (nextA_run hr (hs x) h hex type).imp fun w' vm hh => does_v hh
  case entry x => exact (entryA_run hr (hs x) h hex).imp fun w' vm hh => does_v hh
  case sliceToArrayPointer t x =>
    unfold retO at h
    cases hb : toArrayA E t (ρ x) with
    | none => rw [hb] at h; cases h
    | some z =>
      rw [hb] at h; cases h
      obtain ⟨zv, h1, h2⟩ := toArrayA_run (P := P) ok hb (hs x)
      exact post_pure ok hr hex ⟨zv, does_v h1, h2⟩
  case call c =>
    unfold callOp at h
    cases hc : c.callee with
    | value f => simp [Oper.isCall, hc] at hnc
    | invoke x m => rw [hc] at h; cases h
    | builtin b =>
      rw [hc] at h
      have := builtinA_run ok hr (same_map hs c.args.toList) h hrid hex type (c.args.map fun | .const _ => true | _ => false)
      refine this.imp fun w' vm hh => .inl ?_
      simp only [execOp, resolve, hc, Sem.run_bind, Sem.run_pure, Result.andThen_ok, invoke]
      have e : (c.args.toList.map ρm).toArray = c.args.map ρm := by apply Array.ext'; simp
      rw [e] at hh
      exact hh
end
end Go.Ab
