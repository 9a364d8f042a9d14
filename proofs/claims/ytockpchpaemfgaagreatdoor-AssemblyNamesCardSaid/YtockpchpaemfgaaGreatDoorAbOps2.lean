/- The operations that touch no memory: building, fields, indices, slices, lengths, conversions. Slices, addresses, indices, lengths. -/
import Derived.Test.YtockpchpaemfgaaGreatDoorAbOps1
set_option linter.all false
namespace Go.Ab

theorem spl_length {α : Type} {cs new : List α} {off : Nat} (h : off + new.length ≤ cs.length) : (spl cs off new).length = cs.length := by
  unfold spl; simp; omega

theorem spl_get {α : Type} {cs new : List α} {off : Nat} (h : off + new.length ≤ cs.length) (i : Nat) :
    (spl cs off new)[i]? = if off ≤ i ∧ i < off + new.length then new[i - off]? else cs[i]? := by
  unfold spl
  have hl : (cs.take off).length = off := by simp; omega
  by_cases h1 : i < off
  · rw [if_neg (by omega), List.append_assoc, List.getElem?_append_left (by omega), List.getElem?_take, if_pos h1]
  · by_cases h2 : i < off + new.length
    · rw [if_pos ⟨by omega, h2⟩, List.append_assoc, List.getElem?_append_right (by omega), hl, List.getElem?_append_left (by omega)]
    · rw [if_neg (by omega), List.getElem?_append_right (by simp; omega), List.getElem?_drop]
      congr 1
      simp; omega

theorem setAll_toList {vs : List Value} {c : Array Value} {off : Nat} (h : off + vs.length ≤ c.size) : (setAll c off vs).toList = spl c.toList off vs := by
  apply List.ext_getElem?
  intro i
  rw [spl_get (by simpa using h)]
  by_cases hi : i < c.size
  · have := get_setAll vs c off i hi
    simpa using this
  · rw [if_neg (by omega)]
    rw [List.getElem?_eq_none_iff.2 (by simp [size_setAll]; omega), List.getElem?_eq_none_iff.2 (by simp; omega)]

theorem vrs_splice {I : Imm} {ι : Inj} {w : World} {xs ys : List AV} {us vs : List Value} (h : VRs I ι w xs us) (k : VRs I ι w ys vs) (off : Nat) : VRs I ι w (spl xs off ys) (spl us off vs) := by
  unfold spl
  rw [k.len]
  exact ((h.take off).append k).append (h.drop _)

theorem foldl_setAll (vs : List Value) : ∀ (c : Array Value) (off k : Nat),
    (vs.zipIdx k).foldl (fun cs (p : Value × Nat) => cs.setIfInBounds (off + p.2) p.1) c = setAll c (off + k) vs := by
  induction vs with
  | nil => intro c off k; rfl
  | cons v vs ih =>
    intro c off k
    rw [List.zipIdx_cons, List.foldl_cons, ih]
    rw [setAll]
    congr 1

theorem allCells_eq (cs : List AV) : allCells cs = cs.all AV.isCell := by
  induction cs with
  | nil => rfl
  | cons c cs ih =>
    simp only [allCells, List.all_cons, ih]
    cases c.isCell <;> rfl
theorem fill_run {I : Imm} {ι : Inj} {w : World} {place : Nat → Option (Nat × Nat)} {placem : Nat → Option (Nat × Nat)} (hp : ∀ i x, place i = some x → placem i = some x) :
    ∀ (parts : List (Nat × AV)) (partsm : List (Nat × Value)) (cells cells' : List AV) (cm : List Value),
    partsm.map (·.1) = parts.map (·.1) → VRs I ι w (parts.map (·.2)) (partsm.map (·.2)) → VRs I ι w cells cm → fill place cells parts = some cells' →
    ∃ cm', Instr.fill placem cm.toArray partsm = some cm'.toArray ∧ VRs I ι w cells' cm' := by
  intro parts
  induction parts with
  | nil =>
    intro partsm cells cells' cm h1 _ h3 h4
    cases partsm with
    | cons p ps => simp at h1
    | nil => simp only [fill, Option.some.injEq] at h4; subst h4; exact ⟨cm, rfl, h3⟩
  | cons p parts ih =>
    intro partsm cells cells' cm h1 h2 h3 h4
    cases partsm with
    | nil => simp at h1
    | cons q partsm =>
      obtain ⟨i, v⟩ := p
      obtain ⟨i', vm⟩ := q
      simp only [List.map_cons, List.cons.injEq] at h1
      obtain ⟨rfl, h1⟩ := h1
      obtain ⟨u, us, he, hv, hs⟩ := h2.uncons
      simp only [List.map_cons, List.cons.injEq] at he
      obtain ⟨rfl, rfl⟩ := he
      unfold fill at h4
      split at h4
      · cases h4
      · rename_i off size hpl
        split at h4
        case h_2 => cases h4
        · rename_i cells1 hc1 hc3 hsp
          rw [lenIs_eq] at hc1
          obtain ⟨hc2, rfl⟩ := splice_some hsp
          rw [hc1] at hc2
          have hcs := vr_cells hv (allCells_eq _ ▸ hc3)
          have hsz : vm.cells.size = size := by have := hcs.len; simp at this; omega
          obtain ⟨cm', e1, e2⟩ := ih partsm _ cells' _ h1 hs (vrs_splice h3 hcs off) h4
          refine ⟨cm', ?_, e2⟩
          rw [Instr.fill, hp _ _ hpl]
          have hle : off + vm.cells.size ≤ cm.toArray.size := by have := h3.len; simp; omega
          simp only [hsz, ne_eq, not_true_eq_false, decide_false, Bool.false_or]
          rw [if_neg (by have := h3.len; simp; omega)]
          rw [← e1]
          congr 1
          have : vm.cells.zipIdx.foldl (fun cs (p : Value × Nat) => cs.setIfInBounds (off + p.2) p.1) cm.toArray = setAll cm.toArray off vm.cells.toList := by
            rw [← Array.foldl_toList]
            have := foldl_setAll vm.cells.toList cm.toArray off 0
            simpa using this
          have h5 : (setAll cm.toArray off vm.cells.toList) = (spl cm off vm.cells.toList).toArray := by
            apply Array.ext'
            rw [setAll_toList (by simpa using hle)]
          rw [← h5]
          exact this

theorem cut_spec {α : Type} {cs ds : List α} {off n : Nat} (h : cut cs off n = some ds) : off + n ≤ cs.length ∧ ds = (cs.drop off).take n ∧ ds.length = n := by
  obtain ⟨h1, h2⟩ := cut_some h
  exact ⟨h1, h2, by rw [h2]; simp; omega⟩
theorem front_spec {α : Type} {cs ds : List α} {n : Nat} (h : front cs n = some ds) : n ≤ cs.length ∧ ds = cs.take n ∧ ds.length = n := by
  rw [front_eq] at h; split at h
  · cases h; rename_i hn; exact ⟨hn, rfl, by simp; omega⟩
  · cases h
theorem front_cut {α : Type} {cs ds : List α} {n : Nat} (h : front cs n = some ds) : cut cs 0 n = some ds := by
  cases cs <;> simpa [cut, skip] using h
theorem skip_spec {α : Type} {cs ds : List α} {n : Nat} (h : skip cs n = some ds) : n ≤ cs.length ∧ ds = cs.drop n := by
  rw [skip_eq] at h; split at h
  · cases h; rename_i hn; exact ⟨hn, rfl⟩
  · cases h

theorem ofCells_run {P : Program} {E : Env} (ok : EnvOK P E) {I : Imm} {ι : Inj} {w : World} {t : TypeId} {ti : TI} (ht : E.ty t = some ti) {cs : List AV} {z : AV} (h : ofCells ti.agg cs = some z)
    {blk off : Nat} {vs : List Value} (hl : cs.length = ti.size) (hvs : VRs I ι w cs vs) (hc : ∀ (k : Nat) v, vs[k]? = some v → w.cell? ⟨blk, off + k, none⟩ = some v) :
    ∃ zv, (loadVar t ⟨blk, off, none⟩).run P w = .ok zv w ∧ VR I ι w z zv := by
  unfold loadVar
  simp only [Sem.run_bind, run_isAgg' ok ht, Result.andThen_ok]
  cases hb : ti.agg with
  | true =>
    rw [hb] at h; simp only [ofCells, if_true, Option.some.injEq] at h ⊢; subst h
    simp only [Sem.run_bind, run_sizeOf' ok ht, Result.andThen_ok, run_loadCells (n := ti.size) (hvs.len.trans hl) hc, Sem.run_pure]
    exact ⟨_, rfl, VR.agg' hvs⟩
  | false =>
    rw [hb] at h; simp only [ofCells, Bool.false_eq_true, if_false] at h ⊢
    split at h
    · cases h
      obtain ⟨v, vs', rfl, h1, h2⟩ := hvs.uncons
      have := hc 0 v rfl
      simp only [Nat.add_zero] at this
      exact ⟨v, by rw [run_load, this], h1⟩
    · cases h

theorem cellsD_take {I : Imm} {ι : Inj} {w : World} {blk off n : Nat} {ds es : List D} (h : CellsD I w blk off ds) (hc : cut ds 0 n = some es) :
    ∃ vs, VRs I ι w (es.map .d) vs ∧ ∀ (k : Nat) v, vs[k]? = some v → w.cell? ⟨blk, off + k, none⟩ = some v ∧ I blk (off + k) := by
  obtain ⟨h1, h2, h3⟩ := cut_spec hc
  have hg : ∀ k, k < n → ∃ x v, es[k]? = some x ∧ w.cell? ⟨blk, off + k, none⟩ = some v ∧ I blk (off + k) ∧ DR I w x v := by
    intro k hk
    have hk' : k < ds.length := by omega
    obtain ⟨v, a, b, c⟩ := h k ds[k] (by simp [hk'])
    exact ⟨ds[k], v, by rw [h2]; simp [List.getElem?_take, hk, hk'], a, b, c⟩
  clear h1 h2 hc h
  induction n generalizing off es with
  | zero => have := List.eq_nil_of_length_eq_zero h3; subst this; exact ⟨[], VRs.nil, by simp⟩
  | succ n ih =>
    cases es with
    | nil => simp at h3
    | cons e es =>
      obtain ⟨x, v, hx, hc, hi, hd⟩ := hg 0 (by omega)
      simp only [List.getElem?_cons_zero, Option.some.injEq] at hx; subst hx
      obtain ⟨vs, i1, i2⟩ := ih (off := off + 1) (es := es) (by simpa using h3) fun k hk => by
        obtain ⟨x, v, a, b, c, d⟩ := hg (k + 1) (by omega)
        exact ⟨x, v, by simpa using a, by rw [show off + 1 + k = off + (k + 1) by omega]; exact b, by rw [show off + 1 + k = off + (k + 1) by omega]; exact c, d⟩
      refine ⟨v :: vs, i1.cons (.d hd), fun k u hk => ?_⟩
      cases k with
      | zero => simp at hk; subst hk; exact ⟨hc, hi⟩
      | succ k =>
        have := i2 k u (by simpa using hk)
        rw [show off + (k + 1) = off + 1 + k by omega]; exact this

theorem cellsD_drop {I : Imm} {w : World} {blk off : Nat} {ds : List D} (h : CellsD I w blk off ds) (n : Nat) : CellsD I w blk (off + n) (ds.drop n) := by
  intro i x hx
  rw [List.getElem?_drop] at hx
  have := h (n + i) x hx
  rw [show off + n + i = off + (n + i) by omega]; exact this

/-- A literal's cells. -/
theorem dr_lit {I : Imm} {w : World} {len : Nat} {ds : List D} {v : Value} (h : DR I w (.lit len ds) v) :
    (∃ base c, v = .slice base len c ∧ len ≤ c) ∧ (ds ≠ [] → ∃ blk off c, v = .slice (some ⟨blk, off, none⟩) len c ∧ len ≤ c ∧ CellsD I w blk off ds) := by
  cases h with
  | nil base c => exact ⟨⟨base, c, rfl, Nat.zero_le _⟩, fun h => absurd rfl h⟩
  | lit _ _ blk off c vs hc hl hw hv =>
    refine ⟨⟨_, c, rfl, hc⟩, fun _ => ⟨blk, off, c, rfl, hc, fun i x hx => ?_⟩⟩
    have hi : i < vs.length := by rw [hl]; exact (List.getElem?_eq_some_iff.1 hx).1
    have hvi : vs[i]? = some vs[i] := by simp [hi]
    exact ⟨vs[i], (hw i _ hvi).1, (hw i _ hvi).2, hv i x _ hx hvi⟩

theorem cellsD_lit {I : Imm} {w : World} {blk off len c : Nat} {ds : List D} (h : CellsD I w blk off ds) (hc : len ≤ c) : DR I w (.lit len ds) (.slice (some ⟨blk, off, none⟩) len c) := by
  have hcut : cut ds 0 ds.length = some ds := by rw [cut_eq]; simp
  obtain ⟨vs, h1, h2⟩ := cellsD_take (ι := fun _ => none) h hcut
  refine .lit len ds blk off c vs hc (by simpa using h1.len) h2 fun i x v hx hv => ?_
  have := h1.at_ i (.d x) v (by simp [hx]) hv
  cases this with | d h => exact h

/-- A pointer into immutable cells. -/
theorem dr_ptr {I : Imm} {w : World} {ds : List D} {v : Value} (h : DR I w (.ptr ds) v) : ∃ blk off, v = .pointer (some ⟨blk, off, none⟩) ∧ CellsD I w blk off ds := by
  cases h with
  | ptr _ blk off vs hl hw hv =>
    refine ⟨blk, off, rfl, fun i x hx => ?_⟩
    have hi : i < vs.length := by rw [hl]; exact (List.getElem?_eq_some_iff.1 hx).1
    have hvi : vs[i]? = some vs[i] := by simp [hi]
    exact ⟨vs[i], (hw i _ hvi).1, (hw i _ hvi).2, hv i x _ hx hvi⟩
theorem cellsD_ptr {I : Imm} {w : World} {blk off : Nat} {ds : List D} (h : CellsD I w blk off ds) : DR I w (.ptr ds) (.pointer (some ⟨blk, off, none⟩)) := by
  have hcut : cut ds 0 ds.length = some ds := by rw [cut_eq]; simp
  obtain ⟨vs, h1, h2⟩ := cellsD_take (ι := fun _ => none) h hcut
  refine .ptr ds blk off vs (by simpa using h1.len) h2 fun i x v hx hv => ?_
  have := h1.at_ i (.d x) v (by simp [hx]) hv
  cases this with | d h => exact h
theorem vr_ptr {I : Imm} {ι : Inj} {w : World} {ds : List D} {v : Value} (h : VR I ι w (.d (.ptr ds)) v) : ∃ blk off, v = .pointer (some ⟨blk, off, none⟩) ∧ CellsD I w blk off ds := by
  cases h with | d h => exact dr_ptr h
theorem VR.ptrD {I : Imm} {ι : Inj} {w : World} {blk off : Nat} {ds : List D} (h : CellsD I w blk off ds) : VR I ι w (.d (.ptr ds)) (.pointer (some ⟨blk, off, none⟩)) := .d (cellsD_ptr h)
theorem cellsD_skip {I : Imm} {w : World} {blk off n : Nat} {ds es : List D} (h : CellsD I w blk off ds) (hs : skip ds n = some es) : CellsD I w blk (off + n) es := by
  obtain ⟨_, rfl⟩ := skip_spec hs; exact cellsD_drop h n
end Go.Ab
namespace Go.Ab

section
variable {P : Program} {I : Imm} {ι : Inj} {w : World}

theorem asNat_spec {x : AV} {n : Nat} {v : Value} (h : asNat x = some n) (hv : VR I ι w x v) : ∃ k, v = .int k (n : Int) := by
  unfold asNat at h
  split at h <;> simp at h
  subst h; exact ⟨_, vr_leaf hv⟩
theorem bound_some {x : AV} {v : Value} {d most h : Nat} (hb : bound (some x) d most = some h) (hv : VR I ι w x v) :
    ∃ k i, v = .int k i ∧ 0 ≤ i ∧ i ≤ (most : Int) ∧ h = i.toNat := by
  unfold bound at hb
  dsimp only at hb
  cases hi : asNat x with
  | none => rw [hi] at hb; cases hb
  | some i =>
    rw [hi] at hb; dsimp only at hb
    cases hle : Nat.ble i most with
    | false => rw [hle] at hb; cases hb
    | true =>
      rw [hle] at hb; cases hb
      obtain ⟨k, rfl⟩ := asNat_spec hi hv
      have := of_nble hle
      exact ⟨k, _, rfl, by omega, by omega, by simp⟩

theorem sliceBound_run {k : IntKind} {i : Int} {y : Nat} (h0 : 0 ≤ i) (h1 : i ≤ (y : Int)) (code : BoundsCode) :
    (Instr.sliceBound (.int k i) y code).run P w = .ok i.toNat w := by
  unfold Instr.sliceBound
  simp only [Sem.run_bind, run_asIntOf, Result.andThen_ok]
  rw [if_pos ⟨h0, h1⟩]; rfl

/-- Optional operands, side by side. -/
inductive OptR (I : Imm) (ι : Inj) (w : World) : Option AV → Option Value → Prop
  | none : OptR I ι w none none
  | some {x : AV} {v : Value} (h : VR I ι w x v) : OptR I ι w (some x) (some v)

theorem optR_map {ρ : Operand → AV} {ρm : Operand → Value} (hs : Same I ι w ρ ρm) (o : Option Operand) : OptR I ι w (o.map ρ) (o.map ρm) := by
  cases o with
  | none => exact .none
  | some x => exact .some (hs x)

theorem sliceBounds_run {b : Bool} {len cap top m h l : Nat} {lo hi mx : Option AV} {lov hiv mxv : Option Value} (hlo : OptR I ι w lo lov) (hhi : OptR I ι w hi hiv) (hmx : OptR I ι w mx mxv)
    (h1 : bound mx top top = some m) (h2 : bound hi len m = some h) (h3 : bound lo 0 h = some l) (h4 : mx.isSome = true → hi.isSome = true) (htop : top ≤ cap) :
    (Instr.sliceBounds b len cap lov hiv mxv).run P w = .ok (l, h, if mx.isSome then m else cap) w := by
  have hm : mx.isSome = false → m = top := by
    intro hx; cases mx with
    | none => simp [bound] at h1; exact h1.symm
    | some _ => simp at hx
  unfold Instr.sliceBounds
  cases hmx with
  | none =>
    have hm := hm rfl
    subst hm
    cases hhi with
    | none =>
      simp only [bound, Option.some.injEq] at h2; subst h2
      cases hlo with
      | none => simp only [bound, Option.some.injEq] at h3; subst h3; rfl
      | some hv =>
        obtain ⟨k, i, rfl, a, c, rfl⟩ := bound_some h3 hv
        simp only [Sem.run_bind, Sem.run_pure, Result.andThen_ok, sliceBound_run a c, Option.isSome_none, Bool.false_eq_true, if_false]
    | some hv2 =>
      obtain ⟨k2, i2, rfl, a2, c2, rfl⟩ := bound_some h2 hv2
      have c2' : i2 ≤ (cap : Int) := by omega
      cases hlo with
      | none =>
        simp only [bound, Option.some.injEq] at h3; subst h3
        simp only [Sem.run_bind, Sem.run_pure, Result.andThen_ok, sliceBound_run a2 c2', Option.isSome_none, Bool.false_eq_true, if_false]
      | some hv =>
        obtain ⟨k, i, rfl, a, c, rfl⟩ := bound_some h3 hv
        simp only [Sem.run_bind, Sem.run_pure, Result.andThen_ok, sliceBound_run a c, sliceBound_run a2 c2', Option.isSome_none, Bool.false_eq_true, if_false]
  | some hv1 =>
    obtain ⟨k1, i1, rfl, a1, c1, rfl⟩ := bound_some h1 hv1
    have c1' : i1 ≤ (cap : Int) := by omega
    cases hhi with
    | none => simp at h4
    | some hv2 =>
      obtain ⟨k2, i2, rfl, a2, c2, rfl⟩ := bound_some h2 hv2
      cases hlo with
      | none =>
        simp only [bound, Option.some.injEq] at h3; subst h3
        simp only [Sem.run_bind, Sem.run_pure, Result.andThen_ok, sliceBound_run a1 c1', sliceBound_run a2 c2, Option.isSome_some, if_true]
      | some hv =>
        obtain ⟨k, i, rfl, a, c, rfl⟩ := bound_some h3 hv
        simp only [Sem.run_bind, Sem.run_pure, Result.andThen_ok, sliceBound_run a c, sliceBound_run a1 c1', sliceBound_run a2 c2, Option.isSome_some, if_true]

theorem bound_le {x : Option AV} {d most h : Nat} (hb : bound x d most = some h) (hd : d ≤ most) : h ≤ most := by
  cases x with
  | none => simp [bound] at hb; omega
  | some x =>
    unfold bound at hb; dsimp only at hb
    cases hi : asNat x with
    | none => rw [hi] at hb; cases hb
    | some i =>
      rw [hi] at hb; dsimp only at hb
      cases hle : Nat.ble i most with
      | false => rw [hle] at hb; cases hb
      | true => rw [hle] at hb; cases hb; exact of_nble hle

end

section
variable {P : Program} {E : Env} (ok : EnvOK P E) {I : Imm} {ι : Inj} {w : World}
include ok

omit ok in
theorem str_cut {s : ByteArray} {l h : Nat} {bs : List UInt8} (hb : cut s.data.toList l (Nat.sub h l) = some bs) (hle : l ≤ h) : (⟨bs.toArray⟩ : ByteArray) = s.extract l h := by
  obtain ⟨h1, rfl⟩ := cut_some hb
  apply ByteArray.ext
  apply Array.ext'
  rw [ByteArray.data_extract, Array.toList_extract]
  simp only [List.extract_eq_take_drop]
  rfl
theorem sliceA_run {t : TypeId} {x z : AV} {xv : Value} {lo hi mx : Option AV} {lov hiv mxv : Option Value} (hlo : OptR I ι w lo lov) (hhi : OptR I ι w hi hiv) (hmx : OptR I ι w mx mxv)
    (h : sliceA E t x lo hi mx = some z) (hx : VR I ι w x xv) : ∃ zv, (Instr.sliceAt t xv lov hiv mxv).run P w = .ok zv w ∧ VR I ι w z zv := by
  unfold sliceA at h
  cases hty : E.ty t with
  | none => rw [hty] at h; cases h
  | some ti =>
    rw [hty] at h; dsimp only at h
    unfold Instr.sliceAt
    simp only [Sem.run_bind, run_underlying' ok hty, Result.andThen_ok]
    split at h
    · -- strings
      rename_i s hd
      have e := vr_leaf hx; subst e
      split at h
      · cases h
      · cases hmx
        split at h
        · rename_i hh h2
          split at h
          · rename_i ll h3
            split at h
            case h_2 => cases h
            rename_i bs hbs
            cases h
            rw [strLen_eq] at h2
            rw [str_cut hbs (bound_le h3 (Nat.zero_le _))]
            rw [hd]
            simp only [Instr.slice, Sem.run_bind, run_underlying' ok hty, Result.andThen_ok, hd, Option.isSome_none, Bool.false_eq_true, if_false, Sem.run_pure]
            rw [sliceBounds_run (top := s.size) (m := s.size) hlo hhi .none (by simp [bound]) h2 h3 (by simp) (Nat.le_refl _)]
            exact ⟨_, rfl, VR.leaf _⟩
          · cases h
        · cases h
    · -- a nil slice
      rename_i el hd
      have e := vr_leaf hx; subst e
      split at h
      · cases h
      rename_i hel
      split at h
      · cases h
      rename_i h4
      split at h
      · cases h
      rename_i m h1
      split at h
      · cases h
      rename_i hh h2
      split at h
      · cases h
      rename_i l h3
      cases h
      obtain ⟨eti, he⟩ : ∃ eti, E.ty el = some eti := by cases hq : E.ty el <;> simp_all
      rw [hd]
      simp only [Instr.slice, Sem.run_bind, run_underlying' ok hty, Result.andThen_ok, hd]
      have hm0 : m = 0 := by have := bound_le h1 (Nat.le_refl _); omega
      subst hm0
      have h20 : hh = 0 := by have := bound_le h2 (Nat.le_refl _); omega
      subst h20
      have hl0 : l = 0 := by have := bound_le h3 (Nat.le_refl _); omega
      subst hl0
      rw [sliceBounds_run (top := 0) (m := 0) hlo hhi hmx h1 h2 h3 (by intro hx; cases hi <;> simp_all) (Nat.le_refl _)]
      simp only [Result.andThen_ok, run_sizeOf' ok he, Sem.run_pure]
      exact ⟨_, rfl, by simp; exact VR.leaf _⟩
    · -- a literal
      rename_i el len cs hd
      split at h
      · cases h
      rename_i eti he
      split at h
      · cases h
      rename_i h4
      split at h
      · cases h
      rename_i m h1
      split at h
      · cases h
      rename_i hh h2
      split at h
      · cases h
      rename_i l h3
      split at h
      case h_2 => cases h
      rename_i h5 h50
      have hx' : DR I w (.lit len cs) xv := by cases hx with | d h => exact h
      obtain ⟨⟨base, c, rfl, hc⟩, hcell⟩ := dr_lit hx'
      have hml : m ≤ len := bound_le h1 (Nat.le_refl _)
      have hhl : hh ≤ m := by
        cases hhi with
        | none => simp [bound] at h2; subst h2; cases hmx with
          | none => simp [bound] at h1; omega
          | some _ => simp at h4
        | some hv => obtain ⟨_, _, _, _, _, _⟩ := bound_some h2 hv; omega
      have hlh : l ≤ hh := bound_le h3 (Nat.zero_le _)
      rw [hd]
      simp only [Instr.slice, Sem.run_bind, run_underlying' ok hty, Result.andThen_ok, hd]
      rw [sliceBounds_run (top := len) (m := m) hlo hhi hmx h1 h2 h3 (by intro hx; cases hi <;> simp_all) hc]
      simp only [Result.andThen_ok, run_sizeOf' ok he, Sem.run_pure]
      refine ⟨_, rfl, ?_⟩
      split at h
      · rename_i h6
        cases h
        have e1 : hh - l = 0 := by simp at h6; omega
        have e2 : m - l = 0 := by simp at h6; omega
        have e3 : mx.isSome = true := by simp at h6; exact h6.1
        rw [if_pos e3, e1, e2]; exact .sl0
      · rename_i h6
        split at h
        case h_2 => cases h
        rename_i ds hds
        obtain ⟨_, rfl⟩ := cut_some hds
        cases h
        refine .d ?_
        have hsz : cs.length = len * eti.size := (lenIs_eq _ _).1 h5
        have hsz0 : eti.size ≠ 0 := of_nbeq_f h50
        show DR I w (.lit (hh - l) ((cs.drop (l * eti.size)).take ((hh - l) * eti.size))) _
        have hle : hh - l ≤ (if mx.isSome then m else c) - l := by split <;> omega
        by_cases h0 : hh - l = 0
        · rw [h0]; simp only [Nat.zero_mul, List.take_zero]; exact .nil _ _
        · have hcs : cs ≠ [] := by intro e; rw [e] at hsz; simp at hsz; rcases Nat.mul_eq_zero.1 hsz.symm with h | h <;> omega
          obtain ⟨blk, off, c', hev, hc', hcd⟩ := hcell hcs
          cases hev
          rw [if_neg (by split <;> omega)]
          simp only [Option.map_some, Addr.add_none]
          refine cellsD_lit ?_ hle
          have := cellsD_drop hcd (l * eti.size)
          intro i x hx
          rw [List.getElem?_take] at hx
          split at hx
          · exact this i x hx
          · cases hx
    · -- a slice of a block
      rename_i el b off len esz cap hd
      split at h
      · cases h
      rename_i eti he
      split at h
      · cases h
      rename_i h5
      split at h
      · cases h
      rename_i h4
      split at h
      · cases h
      rename_i m h1
      split at h
      · cases h
      rename_i hh h2
      split at h
      · cases h
      rename_i l h3
      cases h
      have h5 := of_nbeq h5
      show ∃ zv, _ ∧ VR I ι w (.sl b (off + l * esz) (hh - l) esz (if mx.isSome then some (m - l) else cap.map (· - l))) zv
      rw [hd]
      simp only [Instr.slice]
      cases hx with
      | sl hb hc hk hbase hext =>
        rename_i c k o e base
        have htop : cap.getD len ≤ c := by cases cap with
          | none => exact hc
          | some q => simp; have := hk q rfl; omega
        have hmt : m ≤ cap.getD len := bound_le h1 (Nat.le_refl _)
        have hmn : mx.isSome = false → m = cap.getD len := by
          intro hx; cases mx with
          | none => simp [bound] at h1; exact h1.symm
          | some _ => simp at hx
        have hhm : hh ≤ m ∨ hh = len := by
          cases hi with
          | none => simp [bound] at h2; exact .inr h2.symm
          | some y => exact .inl (bound_le (x := some y) (d := 0) (by simpa [bound] using h2) (Nat.zero_le _))
        have hhc : hh ≤ (if mx.isSome then m else c) := by
          cases hx : mx.isSome with
          | true =>
            have hhs : hi.isSome = true := by cases hi <;> simp_all
            cases hi with
            | none => simp at hhs
            | some y => have := bound_le (x := some y) (d := 0) (by simpa [bound] using h2) (Nat.zero_le _); simpa using this
          | false => have := hmn hx; simp; rcases hhm with h | h <;> omega
        have hlh : l ≤ hh := bound_le h3 (Nat.zero_le _)
        simp only [Sem.run_bind, run_underlying' ok hty, Result.andThen_ok, hd]
        rw [sliceBounds_run (top := cap.getD len) (m := m) hlo hhi hmx h1 h2 h3 (by intro hx; cases hi <;> simp_all) htop]
        simp only [Result.andThen_ok, run_sizeOf' ok he, Sem.run_pure]
        refine ⟨_, rfl, .sl hb (by omega) ?_ ?_ ?_⟩
        · intro q hq
          cases hx : mx.isSome with
          | true => rw [hx] at hq; simp at hq ⊢; omega
          | false =>
            rw [hx] at hq; simp at hq ⊢
            obtain ⟨q', hq', rfl⟩ := hq
            have := hk q' hq'; omega
        · by_cases h0 : (if mx.isSome then m else c) = l
          · exact .inl (by omega)
          · rw [if_neg h0]
            rcases hbase with h | h
            · subst h
              exfalso; revert h0 hhc; split <;> intros <;> omega
            · subst h
              refine .inr ?_
              simp only [Option.map_some, Addr.add_none]
              rw [h5, Nat.add_assoc]
        · intro hnone
          cases hx : mx.isSome with
          | true => rw [hx] at hnone; simp at hnone
          | false =>
            rw [hx] at hnone
            have hcn : cap = none := by cases cap <;> simp_all
            have h7 := hext hcn
            rw [hx] at hhc
            simp only [Bool.false_eq_true, if_false] at hhc ⊢
            have h8 : (c - l) * esz + l * esz ≤ c * esz := by
              rw [← Nat.add_mul]; exact Nat.mul_le_mul_right _ (by omega)
            omega
      | sl0 =>
        rename_i base
        have hm0 : m = 0 := by have := bound_le h1 (Nat.le_refl _); simpa using this
        subst hm0
        have h20 : hh = 0 := by have := bound_le h2 (Nat.le_refl _); omega
        subst h20
        have hl0 : l = 0 := by have := bound_le h3 (Nat.le_refl _); omega
        subst hl0
        simp only [Sem.run_bind, run_underlying' ok hty, Result.andThen_ok, hd]
        rw [sliceBounds_run (top := 0) (m := 0) hlo hhi hmx (by simpa using h1) h2 h3 (by intro hx; cases hi <;> simp_all) (Nat.le_refl _)]
        simp only [Result.andThen_ok, run_sizeOf' ok he, Sem.run_pure]
        refine ⟨_, rfl, ?_⟩
        have : (if mx.isSome = true then some (0 - 0) else Option.map (fun x => x - 0) (some 0)) = some 0 := by split <;> rfl
        rw [this]
        simp only [ite_self, Nat.sub_zero, if_true]
        exact .sl0
    · -- a row of a block
      rename_i n el b off hd
      split at h
      · cases h
      rename_i eti he
      split at h
      · cases h
      rename_i hmxn
      have hmx0 : mx = none := by cases mx <;> simp_all
      subst hmx0
      cases hmx
      split at h
      · cases h
      rename_i hh h2
      split at h
      · cases h
      rename_i l h3
      cases h
      cases hx with
      | ptr hb =>
        rename_i k o e
        have hhn : hh ≤ n := bound_le h2 (Nat.le_refl _)
        have hlh : l ≤ hh := bound_le h3 (Nat.zero_le _)
        rw [hd]
        simp only [Instr.sureAddr, Sem.run_bind, Sem.run_pure, Result.andThen_ok]
        rw [sliceBounds_run (top := n) (m := n) hlo hhi .none (by simp [bound]) h2 h3 (by simp) (Nat.le_refl _)]
        simp only [Result.andThen_ok, run_sizeOf' ok he, Sem.run_pure, Option.isSome_none, Bool.false_eq_true, if_false]
        refine ⟨_, rfl, show VR I ι w (.sl b (off + l * eti.size) (hh - l) eti.size (some (n - l))) _ from .sl hb (by omega) (by simp) ?_ ?_⟩
        · by_cases h0 : n = l
          · exact .inl (by omega)
          · right
            rw [if_neg h0, Addr.add_none, Nat.add_assoc]
        · simp
    · cases h
end
end Go.Ab
