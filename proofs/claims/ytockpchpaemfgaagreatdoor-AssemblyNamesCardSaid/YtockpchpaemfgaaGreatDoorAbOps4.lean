/- Addresses of fields and elements, elements, lengths. The operations that read and write memory: loads, stores, new blocks, append, copy. -/
import Derived.Test.YtockpchpaemfgaaGreatDoorAbOps2
import Derived.Laws.BytesString
set_option linter.all false
namespace Go.Ab

section
variable {P : Program} {E : Env} (ok : EnvOK P E) {I : Imm} {ι : Inj} {w : World}
include ok

theorem fieldAddrA_run {t : TypeId} {x z : AV} {xv : Value} {f : Nat} (h : fieldAddrA E t x f = some z) (hx : VR I ι w x xv) :
    ∃ zv, (Instr.fieldAt t xv f).run P w = .ok zv w ∧ VR I ι w z zv := by
  unfold fieldAddrA at h
  split at h
  · rename_i ti hty
    split at h
    · rename_i fields hd
      split at h
      · rename_i fd hf
        rw [nth_eq] at hf
        have hf' : fields[f]? = some fd := by simpa using hf
        split at h
        · rename_i fi hfi
          split at h
          · cases h
          rename_i h0
          have h0 := of_nbeq_f h0
          have key : ∀ blk off, (Instr.fieldAt t (.pointer (some ⟨blk, off, none⟩)) f).run P w = .ok (.pointer (some ⟨blk, off + fd.offset, none⟩)) w := by
            intro blk off
            unfold Instr.fieldAt
            simp only [Sem.run_bind, run_underlying' ok hty, Result.andThen_ok, hd, hf', Instr.sureAddr, Sem.run_pure, fieldPlace, run_sizeOf' ok hfi, h0, if_false, Addr.add_none]
          split at h
          · cases h
            cases hx with
            | ptr hb => exact ⟨_, key _ _, Nat.add_assoc _ _ _ ▸ .ptr hb⟩
          · split at h
            · rename_i hs
              cases h
              obtain ⟨blk, off, rfl, hc⟩ := vr_ptr hx
              exact ⟨_, key _ _, VR.ptrD (cellsD_skip hc hs)⟩
            · cases h
          · cases h
        · cases h
      · cases h
    · cases h
  · cases h

theorem globCells_spec {v : Value} {cs : List D} (hg : GlobOK E I w) (h : globCells E v = some cs) : ∃ blk, v = .pointer (some ⟨blk, 0, none⟩) ∧ CellsD I w blk 0 cs := by
  unfold globCells at h
  split at h
  · exact ⟨_, rfl, hg _ _ h⟩
  · cases h

theorem run_indexAt_array {t el : TypeId} {ti eti : TI} {len blk off : Nat} {k : IntKind} {i : Nat} (hty : E.ty t = some ti) (hd : ti.desc = .array len el) (he : E.ty el = some eti) (hlt : i < len) :
    (Instr.indexAt t (.pointer (some ⟨blk, off, none⟩)) (.int k (i : Int))).run P w = .ok (.pointer (some ⟨blk, off + i * eti.size, none⟩)) w := by
  unfold Instr.indexAt
  simp only [Sem.run_bind, run_asIntOf, Result.andThen_ok, run_underlying' ok hty, hd, Instr.sureAddr, Sem.run_pure]
  rw [if_pos ⟨by omega, by omega⟩]
  simp only [Sem.run_bind, run_sizeOf' ok he, Result.andThen_ok, Sem.run_pure, Addr.add_none, Int.toNat_natCast]

theorem run_indexAt_slice {t el : TypeId} {ti eti : TI} {len blk off c : Nat} {k : IntKind} {i : Nat} (hty : E.ty t = some ti) (hd : ti.desc = .slice el) (he : E.ty el = some eti) (hlt : i < len) :
    (Instr.indexAt t (.slice (some ⟨blk, off, none⟩) len c) (.int k (i : Int))).run P w = .ok (.pointer (some ⟨blk, off + i * eti.size, none⟩)) w := by
  unfold Instr.indexAt
  simp only [Sem.run_bind, run_asIntOf, Result.andThen_ok, run_underlying' ok hty, hd, Sem.run_pure]
  rw [if_pos ⟨by omega, by omega⟩]
  simp only [Sem.run_bind, run_sizeOf' ok he, Result.andThen_ok, Sem.run_pure, Addr.add_none, Int.toNat_natCast]

theorem indexAddrA_run {t : TypeId} {x ix z : AV} {xv iv : Value} (hg : GlobOK E I w) (h : indexAddrA E t x ix = some z) (hx : VR I ι w x xv) (hi : VR I ι w ix iv) :
    ∃ zv, (Instr.indexAt t xv iv).run P w = .ok zv w ∧ VR I ι w z zv := by
  unfold indexAddrA at h
  split at h
  case h_2 => cases h
  rename_i ti i hty hi'
  obtain ⟨k, rfl⟩ := asNat_spec hi' hi
  split at h
  · rename_i len el hd
    split at h
    case h_2 => cases h
    rename_i eti he
    cases hle : Nat.ble len i with
    | true => rw [hle] at h; cases h
    | false =>
      rw [hle] at h
      have hlt : i < len := Nat.lt_of_not_le (of_nble_f hle)
      simp only [cond_false] at h
      split at h
      · cases h
        cases hx with
        | ptr hb => exact ⟨_, run_indexAt_array ok hty hd he hlt, Nat.add_assoc _ _ _ ▸ .ptr hb⟩
      · split at h
        · rename_i hs
          cases h
          obtain ⟨blk, off, rfl, hc⟩ := vr_ptr hx
          exact ⟨_, run_indexAt_array ok hty hd he hlt, VR.ptrD (cellsD_skip hc hs)⟩
        · cases h
      · split at h
        · rename_i v cs hcs
          split at h
          · rename_i hs
            cases h
            have e := vr_leaf hx; subst e
            obtain ⟨blk, e, hc⟩ := globCells_spec ok hg hcs
            subst e
            exact ⟨_, run_indexAt_array ok hty hd he hlt, VR.ptrD (cellsD_skip hc hs)⟩
          · cases h
        · cases h
      · cases h
  · rename_i el hd
    split at h
    case h_2 => cases h
    rename_i eti he
    split at h
    · rename_i b off len esz cap
      split at h
      case h_2 => cases h
      rename_i h2 h3
      cases h
      have h2 := of_nble_f h2
      have h3 := of_nbeq h3
      cases hx with
      | sl hb hc hk hbase hext =>
        rename_i c kk o e base
        rcases hbase with hb0 | hb0
        · omega
        · subst hb0 h3
          exact ⟨_, run_indexAt_slice ok hty hd he (by omega), Nat.add_assoc _ _ _ ▸ .ptr hb⟩
      | sl0 => omega
    · rename_i len cs
      cases hle : Nat.ble len i with
      | true => rw [hle] at h; cases h
      | false =>
        rw [hle] at h
        have hlt : i < len := Nat.lt_of_not_le (of_nble_f hle)
        simp only [cond_false] at h
        split at h
        case h_2 => cases h
        rename_i l hs
        cases h
        have hx' : DR I w (.lit len cs) xv := by cases hx with | d h => exact h
        cases hx' with
        | nil => omega
        | lit _ _ blk off c vs hc hl hw hv =>
          have hcd : CellsD I w blk off cs := fun j x hx => by
            have hj : j < vs.length := by rw [hl]; exact (List.getElem?_eq_some_iff.1 hx).1
            have hvj : vs[j]? = some vs[j] := by simp [hj]
            exact ⟨vs[j], (hw j _ hvj).1, (hw j _ hvj).2, hv j x _ hx hvj⟩
          exact ⟨_, run_indexAt_slice ok hty hd he hlt, VR.ptrD (cellsD_skip hcd hs)⟩
    · cases h
  · cases h

theorem indexA_run {t : TypeId} {x ix z : AV} {xv iv : Value} (h : indexA E t x ix = some z) (hx : VR I ι w x xv) (hi : VR I ι w ix iv) :
    ∃ zv, (Instr.index t xv iv).run P w = .ok zv w ∧ VR I ι w z zv := by
  unfold indexA at h
  split at h
  case h_2 => cases h
  rename_i ti i hty hi'
  obtain ⟨k, rfl⟩ := asNat_spec hi' hi
  unfold Instr.index
  simp only [Sem.run_bind, run_asIntOf, Result.andThen_ok, run_underlying' ok hty]
  split at h
  · rename_i len el cs hd
    obtain ⟨vs, rfl, hvs⟩ := vr_agg hx
    split at h
    case h_2 => cases h
    rename_i eti he
    cases hle : Nat.ble len i with
    | true => rw [hle] at h; cases h
    | false =>
      rw [hle] at h
      have hlt : i < len := Nat.lt_of_not_le (of_nble_f hle)
      simp only [cond_false] at h
      rw [hd]
      have e : (0 ≤ (i : Int) ∧ (i : Int) < (len : Int)) := ⟨by omega, by omega⟩
      simp only [e, and_self, if_true, Sem.run_bind, run_sizeOf' ok he, Result.andThen_ok, Int.toNat_natCast]
      exact partA_run ok h hvs
  · rename_i s hd
    have e := vr_leaf hx; subst e
    rw [hd]
    split at h
    case h_2 => cases h
    rename_i b hb
    cases h
    rw [nth_eq] at hb
    have hb' : s[i]? = some b := by
      have hlt := (List.getElem?_eq_some_iff.1 hb).1
      have hlt' : i < s.size := by simpa using hlt
      have hx := (List.getElem?_eq_some_iff.1 hb).2
      rw [getElem?_pos s i hlt']
      congr 1
    have h0 : (0 ≤ (i : Int)) := by omega
    exact ⟨.int .u8 b.toNat, by simp [h0, hb'], VR.leaf _⟩
  · cases h

theorem capA_run {t : TypeId} {x z : AV} {xv : Value} {ats : Array TypeId} {ty : TypeId} (h0 : ats[0]? = some t) (h : capA E t x = some z) (hx : VR I ι w x xv) :
    ∃ zv, (Builtin.cap_ ats ty #[xv]).run P w = .ok zv w ∧ VR I ι w z zv := by
  unfold capA at h
  split at h
  · cases h
  rename_i ti hty
  unfold Builtin.cap_
  simp only [h0, List.getElem?_toArray, List.getElem?_cons_zero, Sem.run_bind, run_underlying' ok hty, Result.andThen_ok]
  split at h
  · rename_i el b n hd
    have e := vr_leaf hx; subst e
    cases h
    rw [hd]; exact ⟨_, rfl, VR.leaf _⟩
  · rename_i el b off len esz n hd
    cases h
    rw [hd]
    cases hx with
    | sl hb hc hk _ _ => rw [hk _ rfl]; exact ⟨_, rfl, VR.leaf _⟩
    | sl0 => exact ⟨_, rfl, VR.leaf _⟩
  · cases h

theorem lenA_ret {t : TypeId} {x z : AV} {xv : Value} {ats : Array TypeId} {ty : TypeId} (h0 : ats[0]? = some t) (h : lenA E t x = some (.ret z)) (hx : VR I ι w x xv) :
    ∃ zv, (Builtin.len_ ats ty #[xv]).run P w = .ok zv w ∧ VR I ι w z zv := by
  unfold lenA at h
  split at h
  · cases h
  rename_i ti hty
  unfold Builtin.len_
  simp only [h0, List.getElem?_toArray, List.getElem?_cons_zero, Sem.run_bind, run_underlying' ok hty, Result.andThen_ok]
  split at h
  · rename_i s hd
    have e := vr_leaf hx; subst e
    cases h; rw [hd]; exact ⟨_, rfl, VR.leaf _⟩
  · rename_i n el hd
    cases h; rw [hd]; exact ⟨_, rfl, VR.leaf _⟩
  · rename_i el n c hd
    have e := vr_leaf hx; subst e
    cases h; rw [hd]; exact ⟨_, rfl, VR.leaf _⟩
  · rename_i el n cs hd
    have hx' : DR I w (.lit n cs) xv := by cases hx with | d h => exact h
    obtain ⟨⟨base, c, rfl, _⟩, _⟩ := dr_lit hx'
    cases h; rw [hd]; exact ⟨_, rfl, VR.leaf _⟩
  · rename_i el b off n esz cap hd
    cases h; rw [hd]
    cases hx with
    | sl => exact ⟨_, rfl, VR.leaf _⟩
    | sl0 => exact ⟨_, rfl, VR.leaf _⟩
  · simp at h
  · cases h

/-- A slice's cells, as an array. -/
theorem toArrayA_run {t : TypeId} {x z : AV} {xv : Value} (h : toArrayA E t x = some z) (hx : VR I ι w x xv) :
    ∃ zv, (Instr.arrayAt t xv).run P w = .ok zv w ∧ VR I ι w z zv := by
  unfold toArrayA at h
  split at h
  case h_2 => cases h
  rename_i ti hty
  split at h
  case h_2 => cases h
  rename_i n el hd
  unfold Instr.arrayAt
  simp only [Sem.run_bind, run_underlying' ok hty, Result.andThen_ok, hd]
  split at h
  · rename_i b off len esz cap
    cases hle : Nat.ble n len with
    | false => rw [hle] at h; cases h
    | true =>
      rw [hle] at h
      cases h0 : Nat.beq n 0 with
      | true => rw [h0] at h; cases h
      | false =>
        rw [h0] at h
        cases h
        have hle := of_nble hle
        have h0 := of_nbeq_f h0
        cases hx with
        | sl hb hc hk hbase hext =>
          rcases hbase with hb0 | hb0
          · omega
          · subst hb0
            refine ⟨_, ?_, .ptr hb⟩
            (dsimp only; rw [if_neg (by omega)]; rfl)
        | sl0 => omega
  · rename_i len cs
    cases hle : Nat.ble n len with
    | false => rw [hle] at h; cases h
    | true =>
      rw [hle] at h
      cases h0 : Nat.beq n 0 with
      | true => rw [h0] at h; cases h
      | false =>
        rw [h0] at h
        cases h
        have hle := of_nble hle
        have h0 := of_nbeq_f h0
        have hx' : DR I w (.lit len cs) xv := by cases hx with | d h => exact h
        cases hx' with
        | nil => omega
        | lit _ _ blk off c vs hc hl hw hv =>
          have hcd : CellsD I w blk off cs := fun j x hx => by
            have hj : j < vs.length := by rw [hl]; exact (List.getElem?_eq_some_iff.1 hx).1
            have hvj : vs[j]? = some vs[j] := by simp [hj]
            exact ⟨vs[j], (hw j _ hvj).1, (hw j _ hvj).2, hv j x _ hx hvj⟩
          refine ⟨_, ?_, VR.ptrD hcd⟩
          (dsimp only; rw [if_neg (by omega)]; rfl)
  · cases h
end

section
variable {P : Program} {I : Imm} {ι : Inj} {w : World}
theorem foldMin_run {x z : AV} {rest : List AV} {xv : Value} {vs : List Value} (h : foldInt intMin x rest = some z) (hx : VR I ι w x xv) (hs : VRs I ι w rest vs) :
    ∃ zv, (vs.foldlM Builtin.min2 xv).run P w = .ok zv w ∧ VR I ι w z zv := by
  induction rest generalizing x xv vs with
  | nil => rw [hs.unnil]; simp only [foldInt, Option.some.injEq] at h; subst h; exact ⟨xv, rfl, hx⟩
  | cons y rest ih =>
    obtain ⟨v, vs', rfl, h1, h2⟩ := hs.uncons
    unfold foldInt at h
    split at h
    · simp_all
    · rename_i k a k' b rest' heq
      simp only [List.cons.injEq] at heq
      obtain ⟨rfl, rfl⟩ := heq
      have e1 := vr_leaf hx; have e2 := vr_leaf h1; subst e1 e2
      rw [List.foldlM_cons]
      simp only [Sem.run_bind, Builtin.min2, Sem.run_pure, Result.andThen_ok]
      refine ih h ?_ h2
      have : intMin a b = if b < a then b else a := by
        unfold intMin
        rw [intLe_eq]
        by_cases hab : a ≤ b
        · rw [decide_eq_true hab, if_neg (by omega)]
        · rw [decide_eq_false hab, if_pos (by omega)]
      rw [← this]; exact VR.leaf _
    · cases h
theorem foldMax_run {x z : AV} {rest : List AV} {xv : Value} {vs : List Value} (h : foldInt intMax x rest = some z) (hx : VR I ι w x xv) (hs : VRs I ι w rest vs) :
    ∃ zv, (vs.foldlM Builtin.max2 xv).run P w = .ok zv w ∧ VR I ι w z zv := by
  induction rest generalizing x xv vs with
  | nil => rw [hs.unnil]; simp only [foldInt, Option.some.injEq] at h; subst h; exact ⟨xv, rfl, hx⟩
  | cons y rest ih =>
    obtain ⟨v, vs', rfl, h1, h2⟩ := hs.uncons
    unfold foldInt at h
    split at h
    · simp_all
    · rename_i k a k' b rest' heq
      simp only [List.cons.injEq] at heq
      obtain ⟨rfl, rfl⟩ := heq
      have e1 := vr_leaf hx; have e2 := vr_leaf h1; subst e1 e2
      rw [List.foldlM_cons]
      simp only [Sem.run_bind, Builtin.max2, Sem.run_pure, Result.andThen_ok]
      refine ih h ?_ h2
      have : intMax a b = if b > a then b else a := by
        unfold intMax
        rw [intLe_eq]
        by_cases hab : b ≤ a
        · rw [decide_eq_true hab, if_neg (by omega)]
        · rw [decide_eq_false hab, if_pos (by omega)]
      rw [← this]; exact VR.leaf _
    · cases h

end
end Go.Ab
namespace Go.Ab

theorem wheap_cell {w w' : World} (h : w'.heap = w.heap) (b o : Nat) : w'.cell? ⟨b, o, none⟩ = w.cell? ⟨b, o, none⟩ := cell?_congr (by rw [h])

/-- Only the heap counts. -/
theorem relH_heap {I : Imm} {ι : Inj} {H : Heap} {w w' : World} (h : w'.heap = w.heap) (hr : RelH I ι H w) : RelH I ι H w' where
  wf := hr.wf
  lt := fun id r hi => by rw [h]; exact hr.lt id r hi
  live := hr.live
  blk := fun id r hi => (hr.blk id r hi).mono (fun _ _ h => h) (fun b o v _ hv => by rw [wheap_cell h]; exact hv) (fun _ _ h => h)
    (fun b c e fr hb => ⟨c, by rw [h]; exact hb, fun _ _ => rfl⟩) (fun b o hb _ _ => by rw [h]; exact hb)
  sep := hr.sep
  imm := fun b o hi => ⟨let ⟨v, hv⟩ := (hr.imm b o hi).1; ⟨v, by rw [wheap_cell h]; exact hv⟩, (hr.imm b o hi).2⟩

theorem vr_heap {I : Imm} {ι : Inj} {w w' : World} (h : w'.heap = w.heap) {x : AV} {v : Value} (hx : VR I ι w x v) : VR I ι w' x v :=
  hx.mono (fun _ _ h => h) (fun b o v _ hv => by rw [wheap_cell h]; exact hv) (fun _ _ h => h)
theorem vrs_heap {I : Imm} {ι : Inj} {w w' : World} (h : w'.heap = w.heap) {x : List AV} {v : List Value} (hx : VRs I ι w x v) : VRs I ι w' x v :=
  hx.mono (fun _ _ h => h) (fun b o v _ hv => by rw [wheap_cell h]; exact hv) (fun _ _ h => h)

theorem ext_heap {I : Imm} {ι : Inj} {H : Heap} {w w' : World} (h : w'.heap = w.heap) (h1 : w'.os = w.os) (h2 : w'.output = w.output) (h3 : w'.tape = w.tape) (h4 : w.drawn ≤ w'.drawn) : Ext I ι H w I ι H w' :=
  ⟨h1, h2, h3, h4, by rw [h]; exact Nat.le_refl _, fun b c e fr hb => ⟨c, by rw [h]; exact hb, rfl, fun _ _ => rfl⟩, fun b o hb _ _ => by rw [h]; exact hb, fun b l hb => ⟨l, by rw [h]; exact hb⟩,
    fun _ _ h => h, Nat.le_refl _, fun _ _ h => h, fun _ _ _ h => .inl h, fun _ _ _ h => h⟩

/-- What an operation comes to. -/
def Does (P : Program) (s : Sem Next) (w w' : World) (v : Value) : Prop := s.run P w = .ok (.value v) w' ∨ (s.run P w = .ok .skip w' ∧ v = undef)

/-- The state behind an operation. -/
def Post (I : Imm) (ι : Inj) (H : Heap) (w : World) (rid : Option Nat) (H' : Heap) (v : AV) (R : World → Value → Prop) : Prop :=
  ∃ I' ι' w' vm, RelH I' ι' H' w' ∧ VR I' ι' w' v vm ∧ Ext I ι H w I' ι' H' w' ∧ (∀ id, id < H.n → rid ≠ some id → ι' id = ι id) ∧ R w' vm

theorem Post.same {I : Imm} {ι : Inj} {H : Heap} {w : World} {rid : Option Nat} {v : AV} {R : World → Value → Prop} (hr : RelH I ι H w) {vm : Value} (hv : VR I ι w v vm) (h : R w vm) : Post I ι H w rid H v R :=
  ⟨I, ι, w, vm, hr, hv, Ext.refl I ι H w, fun _ _ _ => rfl, h⟩

section
variable {P : Program} {I : Imm} {ι : Inj} {H : Heap} {w : World}

/-- The cells of a block, read. -/
theorem br_cut (hr : RelH I ι H w) {b k o e off n : Nat} (hb : ι b = some (k, o, e)) {m : Nat} {cs ds : List AV} (hg : H.get b = .cells m cs) (hc : cut cs off n = some ds) :
    ∃ vs, VRs I ι w ds vs ∧ ∀ (j : Nat) v, vs[j]? = some v → w.cell? ⟨k, o + off + j, none⟩ = some v := by
  obtain ⟨h1, h2, h3⟩ := cut_spec hc
  have hbr := hr.blk b _ hb
  rw [hg] at hbr
  obtain ⟨_, _, _, _, _, h4⟩ := hbr
  have hg' : ∀ j, j < n → ∃ x v, ds[j]? = some x ∧ w.cell? ⟨k, o + off + j, none⟩ = some v ∧ VR I ι w x v := by
    intro j hj
    have hj' : off + j < cs.length := by omega
    obtain ⟨v, a, c⟩ := h4 (off + j) cs[off + j] (by simp [hj'])
    exact ⟨cs[off + j], v, by rw [h2]; simp [List.getElem?_take, hj, hj'], by rw [Nat.add_assoc]; exact a, c⟩
  clear h1 h2 h4 hc hg
  induction n generalizing off ds with
  | zero => have := List.eq_nil_of_length_eq_zero h3; subst this; exact ⟨[], VRs.nil, by simp⟩
  | succ n ih =>
    cases ds with
    | nil => simp at h3
    | cons d ds =>
      obtain ⟨x, v, hx, hc, hd⟩ := hg' 0 (by omega)
      simp only [List.getElem?_cons_zero, Option.some.injEq] at hx; subst hx
      obtain ⟨vs, i1, i2⟩ := ih (off := off + 1) (ds := ds) (by simpa using h3) fun j hj => by
        obtain ⟨x, v, a, b, c⟩ := hg' (j + 1) (by omega)
        exact ⟨x, v, by simpa using a, by rw [show o + (off + 1) + j = o + off + (j + 1) by omega]; exact b, c⟩
      refine ⟨v :: vs, i1.cons hd, fun j u hj => ?_⟩
      cases j with
      | zero => simp at hj; subst hj; exact hc
      | succ j =>
        have := i2 j u (by simpa using hj)
        rw [show o + off + (j + 1) = o + (off + 1) + j by omega]; exact this

theorem cell_wset_in {blk off : Nat} {vs : List Value} {j : Nat} {v : Value} (hv : vs[j]? = some v) (hc : ∃ u, w.cell? ⟨blk, off + j, none⟩ = some u) :
    (wset w blk off vs).cell? ⟨blk, off + j, none⟩ = some v := by
  obtain ⟨u, hu⟩ := hc
  obtain ⟨c, e, fr, hb, hcu⟩ := cell?_eq.1 hu
  have hlt := (Array.getElem?_eq_some_iff.1 hcu).1
  refine cell?_eq.2 ⟨_, e, fr, wset_cells hb, ?_⟩
  rw [get_setAll _ _ _ _ hlt, if_pos ⟨by omega, by have := (List.getElem?_eq_some_iff.1 hv).1; omega⟩]
  rw [show off + j - off = j by omega]; exact hv

theorem cell_wset_out {blk off b o : Nat} {vs : List Value} {v : Value} (hout : b ≠ blk ∨ o < off ∨ off + vs.length ≤ o) (hv : w.cell? ⟨b, o, none⟩ = some v) :
    (wset w blk off vs).cell? ⟨b, o, none⟩ = some v := by
  by_cases hb : b = blk
  · subst hb
    obtain ⟨c, e, fr, h1, h2⟩ := cell?_eq.1 hv
    refine cell?_eq.2 ⟨_, e, fr, wset_cells h1, ?_⟩
    rw [get_setAll _ _ _ _ (Array.getElem?_eq_some_iff.1 h2).1, if_neg (by rcases hout with h | h | h <;> first | exact absurd rfl h | omega)]
    exact h2
  · rw [cell?_congr (wset_ne hb)]; exact hv

theorem frozen_wset {blk off b o : Nat} {vs : List Value} (h : w.frozen? ⟨b, o, none⟩ = false) : (wset w blk off vs).frozen? ⟨b, o, none⟩ = false := by
  by_cases hb : b = blk
  · subst hb
    unfold World.frozen? at h ⊢
    dsimp only at h ⊢
    cases hh : w.heap[b]? with
    | none =>
      have : (wset w b off vs).heap[b]? = none := by
        rw [Array.getElem?_eq_none_iff] at hh ⊢; rw [wset_size]; exact hh
      rw [this]
    | some x =>
      rw [hh] at h
      cases x with
      | cells c e fr => rw [wset_cells hh]; exact h
      | _ => rw [wset_obj hh (by simp)]
  · rw [frozen?_congr (wset_ne hb)]; exact h

/-- New contents for a block: 'cs2' is what it holds behind a row of stores. -/
theorem putCells (hr : RelH I ι H w) {b k o e m p : Nat} (hb : ι b = some (k, o, e)) {cs cs2 : List AV} (hg : H.get b = .cells m cs) (hmp : m ≤ p) (hm2 : m ≤ cs2.length) {new : List AV} {vs : List Value} (hv : VRs I ι w new vs)
    (hcell : vs.all oneCell = true) (hlen : p + new.length ≤ e) (hl2 : cs2.length ≤ e)
    (h2 : ∀ i x, cs2[i]? = some x → (p ≤ i ∧ i < p + new.length ∧ new[i - p]? = some x) ∨ ((i < p ∨ p + new.length ≤ i) ∧ cs[i]? = some x)) :
    (storeCells ⟨k, o + p, none⟩ vs 0).run P w = .ok () (wset w k (o + p) vs) ∧ RelH I ι (H.set b (.cells m cs2)) (wset w k (o + p) vs) ∧
      Ext I ι H w I ι (H.set b (.cells m cs2)) (wset w k (o + p) vs) ∧ (∀ y v, VR I ι w y v → VR I ι (wset w k (o + p) vs) y v) := by
  have hbr := hr.blk b _ hb
  rw [hg] at hbr
  obtain ⟨g0, g1, gI, g2, g3, g4⟩ := hbr
  have hvl := hv.len
  refine ⟨?_, ?_⟩
  · have := run_storeCells (P := P) (blk := k) vs (o + p) 0 w hcell (fun j hj => by
      obtain ⟨u, hu⟩ := g2 (p + j) (by dsimp only; omega)
      exact ⟨u, by rw [show o + p + 0 + j = o + (p + j) by omega]; exact hu⟩) (fun j hj => by
      have hu := g3 (p + j) (by dsimp only; omega)
      rw [show o + p + 0 + j = o + (p + j) by omega]; exact hu)
    simpa using this
  · have hin : ∀ b' o', InR (k, o, e) (.cells m cs) b' o' ↔ (b' = k ∧ o + m ≤ o' ∧ o' < o + e) := fun _ _ => Iff.rfl
    obtain ⟨a1, a2, a3⟩ := updBlk (w' := wset w k (o + p) vs) hr hb (.cells m cs2) rfl rfl rfl rfl wset_size
      (fun b' c el fr h => by
        by_cases hbk : b' = k
        · subst hbk
          refine ⟨_, wset_cells h, size_setAll _ _ _, fun o' ho' => ?_⟩
          by_cases hlt : o' < c.size
          · rw [get_setAll _ _ _ _ hlt, if_neg]
            intro hh
            exact ho' (by rw [hg]; exact ⟨rfl, by dsimp only; omega, by dsimp only; omega⟩)
          · rw [Array.getElem?_eq_none_iff.2 (by rw [size_setAll]; omega), Array.getElem?_eq_none_iff.2 (by omega)]
        · exact ⟨c, by rw [wset_ne hbk]; exact h, rfl, fun _ _ => rfl⟩)
      (fun b' o' h hn _ => by
        by_cases hbk : b' = k
        · subst hbk; exact wset_obj h hn
        · rw [wset_ne hbk]; exact h)
      (fun b' l h => by
        by_cases hbk : b' = k
        · subst hbk; exact ⟨l, wset_obj h (by simp)⟩
        · exact ⟨l, by rw [wset_ne hbk]; exact h⟩)
      (fun b' o' h => by rw [hg]; exact h)
      (fun hvr => by
        have cellAt : ∀ i, i < e → ∃ v, (wset w k (o + p) vs).cell? ⟨k, o + i, none⟩ = some v := by
          intro i hi
          obtain ⟨u, hu⟩ := g2 i hi
          by_cases hi2 : p ≤ i ∧ i < p + vs.length
          · have hvi : vs[i - p]? = some (vs[i - p]'(by omega)) := by simp [show i - p < vs.length by omega]
            have := cell_wset_in (w := w) (blk := k) (off := o + p) hvi ⟨u, by rw [show o + p + (i - p) = o + i by omega]; exact hu⟩
            rw [show o + p + (i - p) = o + i by omega] at this
            exact ⟨_, this⟩
          · exact ⟨u, cell_wset_out (.inr (by omega)) hu⟩
        refine ⟨hm2, hl2, gI, cellAt, fun i hi => frozen_wset (g3 i hi), fun i x hx => ?_⟩
        rcases h2 i x hx with ⟨c1, c2, c3⟩ | ⟨c1, c2⟩
        · obtain ⟨v, hv1, hv2⟩ := hv.get c3
          obtain ⟨u, hu⟩ := g2 i (by dsimp only; omega)
          have := cell_wset_in (w := w) (blk := k) (off := o + p) hv1 ⟨u, by rw [show o + p + (i - p) = o + i by omega]; exact hu⟩
          rw [show o + p + (i - p) = o + i by omega] at this
          exact ⟨v, this, hvr _ _ hv2⟩
        · obtain ⟨v, hv1, hv2⟩ := g4 i x c2
          exact ⟨v, cell_wset_out (.inr (by dsimp only; omega)) hv1, hvr _ _ hv2⟩)
    exact ⟨a1, a2, a3⟩

theorem splice_cases {α : Type} {cs new : List α} {off : Nat} (h : off + new.length ≤ cs.length) : ∀ i x, (spl cs off new)[i]? = some x →
    (off ≤ i ∧ i < off + new.length ∧ new[i - off]? = some x) ∨ ((i < off ∨ off + new.length ≤ i) ∧ cs[i]? = some x) := by
  intro i x hx
  rw [spl_get h] at hx
  split at hx
  · rename_i hh; exact .inl ⟨hh.1, hh.2, hx⟩
  · rename_i hh; exact .inr ⟨by omega, hx⟩

/-- A block goes on in another place, from 'off' on. -/
theorem renameBlk (hr : RelH I ι H w) {b k o e off m : Nat} (hb : ι b = some (k, o, e)) {cs : List AV} (hg : H.get b = .cells m cs) (hoff : off ≤ cs.length)
    {id : Nat} (hid : ι id = none) {H' : Heap} (hwf : H'.WF) (hn : H.n ≤ H'.n) (hlt' : id < H'.n) (hx : H'.get id = .cells (m - off) (cs.drop off)) (hold : ∀ j, j ≠ id → H'.get j = (H.set b .dead).get j) :
    RelH I (ι.put id (k, o + off, e - off)) H' w ∧ Ext I ι H w I (ι.put id (k, o + off, e - off)) H' w := by
  have hlt := (hr.lt b _ hb).1
  have hbr := hr.blk b _ hb
  rw [hg] at hbr
  obtain ⟨g0, g1, gI, g2, g3, g4⟩ := hbr
  have hce : cs.length ≤ e := g1
  have hsub : ∀ j s, ι.put id (k, o + off, e - off) j = some s → ∀ b' o', InR s (H'.get j) b' o' →
      (j = id ∧ InR (k, o, e) (H.get b) b' o') ∨ (j ≠ id ∧ j ≠ b ∧ ι j = some s ∧ InR s (H.get j) b' o') := by
    intro j s hj b' o' hin
    by_cases hjn : j = id
    · subst hjn
      rw [Inj.put_same] at hj; cases hj
      rw [hx] at hin
      refine .inl ⟨rfl, ?_⟩
      rw [hg]
      simp only [InR] at hin ⊢
      exact ⟨hin.1, by omega, by omega⟩
    · rw [Inj.put_ne hjn] at hj
      rw [hold j hjn] at hin
      by_cases hjb : j = b
      · subst hjb; rw [Heap.get_set_same hr.wf hlt] at hin; exact hin.elim
      · rw [Heap.get_set_ne hjb] at hin; exact .inr ⟨hjn, hjb, hj, hin⟩
  have hown : ∀ b' o', Own (ι.put id (k, o + off, e - off)) H' b' o' → Own ι H b' o' := by
    rintro b' o' ⟨j, s, hj, hin⟩
    rcases hsub j s hj b' o' hin with ⟨_, h⟩ | ⟨_, _, h1, h2⟩
    · exact ⟨b, _, hb, h⟩
    · exact ⟨j, s, h1, h2⟩
  refine ⟨⟨hwf, fun j s hj => ?_, fun j hj => ?_, fun j s hj => ?_, fun i j ri rj hij hi hj b' o' h1 h2 => ?_, fun b' o' hi => ⟨(hr.imm b' o' hi).1, fun h => (hr.imm b' o' hi).2 (hown b' o' h)⟩⟩,
    ⟨rfl, rfl, rfl, Nat.le_refl _, Nat.le_refl _, fun _ c _ _ h => ⟨c, h, rfl, fun _ _ => rfl⟩, fun _ _ h _ _ => h, fun _ l h => ⟨l, h⟩, Inj.put_mono hid, hn, fun _ _ h => h, fun _ _ _ h => .inl h, fun b' o' _ h => hown b' o' h⟩⟩
  · by_cases hjn : j = id
    · subst hjn; rw [Inj.put_same] at hj; cases hj; exact ⟨hlt', (hr.lt b _ hb).2⟩
    · rw [Inj.put_ne hjn] at hj; exact ⟨by have := (hr.lt j s hj).1; omega, (hr.lt j s hj).2⟩
  · by_cases hjn : j = id
    · subst hjn; exact ⟨_, Inj.put_same⟩
    · rw [Inj.put_ne hjn]
      rw [hold j hjn] at hj
      by_cases hjb : j = b
      · subst hjb; exact ⟨_, hb⟩
      · rw [Heap.get_set_ne hjb] at hj; exact hr.live j hj
  · by_cases hjn : j = id
    · subst hjn; rw [Inj.put_same] at hj; cases hj; rw [hx]
      refine ⟨by simp; omega, by simp; omega, fun i hi => ?_, fun i hi => ?_, fun i hi => ?_, fun i x hx => ?_⟩
      · have := gI (off + i) (by omega)
        dsimp only at this ⊢; rw [Nat.add_assoc]; exact this
      · obtain ⟨v, hv⟩ := g2 (off + i) (by dsimp only at hi ⊢; omega)
        exact ⟨v, by dsimp only; rw [Nat.add_assoc]; exact hv⟩
      · have := g3 (off + i) (by dsimp only at hi ⊢; omega)
        dsimp only; rw [Nat.add_assoc]; exact this
      · rw [List.getElem?_drop] at hx
        obtain ⟨v, hv1, hv2⟩ := g4 _ x hx
        exact ⟨v, by dsimp only; rw [Nat.add_assoc]; exact hv1, hv2.mono (fun _ _ h => h) (fun _ _ _ _ h => h) (Inj.put_mono hid)⟩
    · rw [Inj.put_ne hjn] at hj
      rw [hold j hjn]
      by_cases hjb : j = b
      · subst hjb; rw [Heap.get_set_same hr.wf hlt]; trivial
      · rw [Heap.get_set_ne hjb]
        exact (hr.blk j s hj).mono (fun _ _ h => h) (fun _ _ _ _ h => h) (Inj.put_mono hid) (fun _ c _ _ h => ⟨c, h, fun _ _ => rfl⟩) (fun _ _ h _ _ => h)
  · rcases hsub i ri hi b' o' h1 with ⟨e1, e2⟩ | ⟨e1, e2, e3, e4⟩
    · rcases hsub j rj hj b' o' h2 with ⟨f1, f2⟩ | ⟨f1, f2, f3, f4⟩
      · exact hij (e1.trans f1.symm)
      · exact hr.sep b j _ rj (Ne.symm f2) hb f3 b' o' e2 f4
    · rcases hsub j rj hj b' o' h2 with ⟨f1, f2⟩ | ⟨f1, f2, f3, f4⟩
      · exact hr.sep i b ri _ e2 e3 hb b' o' e4 f2
      · exact hr.sep i j ri rj hij e3 f3 b' o' e4 f4

theorem inj_none (hr : RelH I ι H w) {id : Nat} (h : H.n ≤ id) : ι id = none := by
  cases hh : ι id with
  | none => rfl
  | some r => have := (hr.lt _ r hh).1; omega

/-- Where a new block is laid. -/
theorem lay_spec {H H' : Heap} {rid : Option Nat} {x : Blk} {f : Nat → AV} {v : AV} (hwf : H.WF) (h : lay H rid x f = some (v, H')) :
    ∃ id, v = f id ∧ H'.WF ∧ H.n ≤ H'.n ∧ id < H'.n ∧ H'.get id = x ∧ (∀ j, j ≠ id → H'.get j = H.get j) ∧ ((rid = none ∧ id = H.n) ∨ rid = some id) := by
  unfold lay at h
  split at h
  · cases h
    exact ⟨H.n, rfl, Heap.wf_push hwf, by rw [Heap.n_push]; omega, by rw [Heap.n_push]; omega, Heap.get_push_same hwf, fun j hj => Heap.get_push_ne hwf hj, .inl ⟨rfl, rfl⟩⟩
  · rename_i id
    split at h
    · cases hb : Nat.ble H.n id with
      | true => rw [hb] at h; cases h
      | false =>
        rw [hb] at h; cases h
        have hlt : id < H.n := Nat.lt_of_not_le (of_nble_f hb)
        exact ⟨id, rfl, Heap.wf_set hwf, by rw [Heap.n_set]; exact Nat.le_refl _, by rw [Heap.n_set]; exact hlt, Heap.get_set_same hwf hlt, fun j hj => Heap.get_set_ne hj, .inr rfl⟩
    · cases h
end

end Go.Ab
