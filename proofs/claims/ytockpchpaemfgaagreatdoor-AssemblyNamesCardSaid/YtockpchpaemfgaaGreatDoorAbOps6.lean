/- append. -/
import Derived.Test.YtockpchpaemfgaaGreatDoorAbOps4
set_option linter.all false
namespace Go.Ab

theorem growBy_le (newLen : Nat) : ∀ (rounds c : Nat), Builtin.growBy newLen rounds c ≤ c * 2 ^ rounds + 256 * (2 ^ rounds) * rounds := by
  intro rounds
  induction rounds with
  | zero => intro c; simp [Builtin.growBy]
  | succ r ih =>
    intro c
    unfold Builtin.growBy
    split
    · have : 1 ≤ 2 ^ (r + 1) := Nat.one_le_two_pow
      have := Nat.mul_le_mul_left c this
      omega
    · have h := ih (c + (c + 768) / 4)
      have h2 : c + (c + 768) / 4 ≤ 2 * c + 192 := by omega
      have h3 := Nat.mul_le_mul_right (2 ^ r) h2
      have e1 : (2 * c + 192) * 2 ^ r = c * 2 ^ (r + 1) + 192 * 2 ^ r := by rw [Nat.add_mul, Nat.pow_succ]; congr 1; rw [Nat.mul_comm 2 c, Nat.mul_assoc, Nat.mul_comm 2]
      have e2 : 256 * 2 ^ (r + 1) * (r + 1) = 2 * (256 * 2 ^ r * r) + 512 * 2 ^ r := by
        rw [Nat.pow_succ, Nat.mul_add, Nat.mul_one]
        have : 256 * (2 ^ r * 2) = 2 * (256 * 2 ^ r) := by rw [Nat.mul_comm (2 ^ r) 2, ← Nat.mul_assoc, ← Nat.mul_assoc]
        rw [this, Nat.mul_assoc 2, ← Nat.mul_assoc 2 256]
      omega

theorem nextcap_le {need cap : Nat} (h : cap < need) : Builtin.nextslicecap need cap ≤ 16 * need + 20000 := by
  unfold Builtin.nextslicecap
  split
  · omega
  · split
    · omega
    · have := growBy_le need 4 cap
      simp at this
      omega

section
variable {P : Program} {I : Imm} {ι : Inj} {H : Heap} {w : World}

theorem vrs_flatten {cs : List (List AV)} {vs : List (List Value)} (hl : cs.length = vs.length) (h : ∀ (i : Nat) x v, cs[i]? = some x → vs[i]? = some v → VRs I ι w x v) : VRs I ι w cs.flatten vs.flatten := by
  induction cs generalizing vs with
  | nil => cases vs with
    | nil => exact VRs.nil
    | cons => simp at hl
  | cons c cs ih =>
    cases vs with
    | nil => simp at hl
    | cons v vs =>
      simp only [List.flatten_cons]
      exact (h 0 c v rfl rfl).append (ih (by simpa using hl) fun i x y a b => h (i + 1) x y (by simpa using a) (by simpa using b))

/-- The zero cells of n elements, as the model lays them. -/
theorem zero_rep {zs : List Value} {n : Nat} (hz : zs ≠ []) (z : Array Value) (hzz : z.toList = zs) :
    ((Array.range (n * zs.length)).map (z[· % z.size]!)).toList = (List.replicate n zs).flatten := by
  have hsz : z.size = zs.length := by rw [← hzz]; simp
  have hpos : 0 < zs.length := List.length_pos_iff.2 hz
  apply List.ext_getElem?
  intro i
  simp only [Array.toList_map, List.getElem?_map, Array.toList_range]
  by_cases hi : i < n * zs.length
  · rw [List.getElem?_range hi]
    simp only [Option.map_some]
    have hmod : i % zs.length < zs.length := Nat.mod_lt _ hpos
    have e1 : ∀ (n i : Nat), i < n * zs.length → (List.replicate n zs).flatten[i]? = zs[i % zs.length]? := by
      intro n
      induction n with
      | zero => intro i h; simp at h
      | succ n ih =>
        intro i h
        rw [List.replicate_succ, List.flatten_cons]
        by_cases hlt : i < zs.length
        · rw [List.getElem?_append_left hlt, Nat.mod_eq_of_lt hlt]
        · rw [List.getElem?_append_right (by omega), ih _ (by rw [Nat.succ_mul] at h; omega)]
          congr 1
          rw [← Nat.mod_eq_sub_mod (by omega)]
    rw [e1 n i hi, hsz]
    have : z[i % zs.length]! = zs[i % zs.length] := by
      rw [getElem!_pos z _ (by rw [hsz]; exact hmod)]
      simp [← hzz]
    rw [this]; simp [hmod]
  · rw [List.getElem?_eq_none_iff.2 (by simp; omega)]
    rw [List.getElem?_eq_none_iff.2 (by simp; omega)]; rfl
theorem lenOf_run {x : AV} {xv : Value} {m : Nat} (h : sourceLen x = some m) (hx : VR I ι w x xv) : (Builtin.lenOf xv).run P w = .ok m w := by
  unfold sourceLen at h
  split at h <;> simp only [Option.some.injEq, reduceCtorEq] at h
  · have e := vr_leaf hx; subst e h; rfl
  · have e := vr_leaf hx; subst e h; rfl
  · subst h
    have hx' := by cases hx with | d h => exact h
    obtain ⟨⟨base, c, rfl, _⟩, _⟩ := dr_lit hx'
    rfl
  · subst h; cases hx <;> rfl


theorem gather_one {p : Part} {cs : List AV} (h : gatherCells H [p] = some cs) : p.get H = some cs := by
  simp only [gatherCells] at h
  cases hp : p.get H with
  | none => rw [hp] at h; cases h
  | some a => rw [hp] at h; simpa using h
theorem gather_two {p q : Part} {cs : List AV} (h : gatherCells H [p, q] = some cs) : ∃ a b, p.get H = some a ∧ q.get H = some b ∧ cs = a ++ b := by
  simp only [gatherCells] at h
  cases hp : p.get H with
  | none => rw [hp] at h; cases h
  | some a => cases hq : q.get H with
    | none => rw [hp, hq] at h; cases h
    | some b => rw [hp, hq] at h; exact ⟨a, b, rfl, rfl, by simpa using h.symm⟩

theorem old_get {b off n : Nat} {cs : List AV} (h : (Part.old b off n).get H = some cs) : ∃ m all, H.get b = .cells m all ∧ cut all off n = some cs := by
  simp only [Part.get] at h
  split at h
  · exact ⟨_, _, by assumption, h⟩
  · cases h

theorem source_run (hr : RelH I ι H w) {esz n : Nat} {x : AV} {p : Part} {cs : List AV} {xv : Value} (h : source esz n x = some p) (hp : p.get H = some cs) (hx : VR I ι w x xv) :
    (∃ vs, (∀ w' : World, w'.heap = w.heap → (Builtin.firstCells esz n xv).run P w' = .ok vs.toArray w') ∧ VRs I ι w cs vs) ∧ cs.length = n * esz := by
  have zero : ∀ base len c, n * esz = 0 → ∀ w' : World, w'.heap = w.heap → (Builtin.firstCells esz n (.slice base len c)).run P w' = .ok #[] w' := by
    intro base len c h0 w' _
    cases base with
    | none => rfl
    | some a => simp only [Builtin.firstCells, h0]; rfl
  unfold source at h
  split at h
  · have e := vr_leaf hx; subst e
    cases hb : Nat.beq n 0 with
    | false => rw [hb] at h; cases h
    | true =>
      rw [hb] at h; cases h; cases hp
      have := of_nbeq hb; subst this
      exact ⟨⟨[], fun _ _ => rfl, VRs.nil⟩, by simp⟩
  · rename_i s
    have e := vr_leaf hx; subst e
    cases hb : Nat.beq esz 1 with
    | false => rw [hb] at h; cases h
    | true =>
      rw [hb] at h; simp only [cond_true] at h
      have := of_nbeq hb; subst this
      split at h
      case h_2 => cases h
      rename_i l hl
      cases h; cases hp
      obtain ⟨h1, h2, h3⟩ := front_spec hl
      refine ⟨⟨(s.data.toList.take n).map fun b => .int .u8 b.toNat, fun w' _ => ?_, ?_⟩, by omega⟩
      · simp only [Builtin.firstCells, Sem.run_pure]
        congr 1
        apply Array.ext'
        simp [ByteArray.data_extract, Array.toList_extract, List.extract_eq_take_drop]
      · have := VRs.leafs (I := I) (ι := ι) (w := w) ((s.data.toList.take n).map fun b => Value.int .u8 b.toNat)
        rw [h2]
        unfold bytesCells
        rw [← List.map_take]
        rw [List.map_map] at this
        exact this
  · rename_i len ds
    split at h
    case h_2 => cases h
    rename_i l h1 h2
    cases h; cases hp
    have h1 := (lenIs_eq _ _).1 h1
    obtain ⟨h3, h4, h5⟩ := front_spec h2
    have h3 : n * esz ≤ ds.length := h3
    have h4 : l = ds.take (n * esz) := h4
    have h5 : l.length = n * esz := h5
    refine ⟨?_, by simp; exact h5⟩
    have hx' : DR I w (.lit len ds) xv := by cases hx with | d h => exact h
    by_cases hds : ds = []
    · subst hds
      obtain ⟨⟨base, c, rfl, _⟩, _⟩ := dr_lit hx'
      have h0 : n * esz = 0 := by simpa using h3
      rw [h0] at h4
      exact ⟨[], zero _ _ _ h0, by rw [h4]; exact VRs.nil⟩
    · obtain ⟨blk, off, c, rfl, hc, hcd⟩ := (dr_lit hx').2 hds
      obtain ⟨vs, g1, g2⟩ := cellsD_take (ι := ι) hcd (front_cut h2)
      have hl : vs.length = n * esz := by have := g1.len; simp only [List.length_map] at this; omega
      exact ⟨vs, fun w' hw' => run_loadCells hl fun k v hk => by rw [wheap_cell hw']; exact (g2 k v hk).1, g1⟩
  · rename_i b off len esz' cap
    split at h
    case h_2 => cases h
    rename_i hn he
    have hn := of_nble hn
    have he := of_nbeq he
    subst he
    cases h0 : Nat.beq (Nat.mul n esz') 0 with
    | true =>
      rw [h0] at h; cases h; cases hp
      have h0 : n * esz' = 0 := of_nbeq h0
      refine ⟨?_, by simp [h0]⟩
      cases hx with
      | sl => exact ⟨[], zero _ _ _ h0, VRs.nil⟩
      | sl0 => exact ⟨[], zero _ _ _ h0, VRs.nil⟩
    | false =>
      rw [h0] at h; cases h
      have h0 : ¬ n * esz' = 0 := of_nbeq_f h0
      obtain ⟨m, all, hg, hcut⟩ := old_get hp
      refine ⟨?_, (cut_spec hcut).2.2⟩
      cases hx with
      | sl hb hc hk hbase hext =>
        rename_i c k o e base
        rcases hbase with hb0 | hb0
        · exfalso; apply h0; have : n = 0 := by omega
          rw [this]; simp
        · subst hb0
          obtain ⟨vs, g1, g2⟩ := br_cut hr hb hg hcut
          have hl : vs.length = n * esz' := by have := g1.len; have h3 := (cut_spec hcut).2.2; exact this.trans h3
          exact ⟨vs, fun w' hw' => run_loadCells hl fun k v hk => by rw [wheap_cell hw']; exact g2 k v hk, g1⟩
      | sl0 => exfalso; apply h0; have : n = 0 := by omega
               rw [this]; simp
  · cases h
end

/-- What is appended, as the model reads it. -/
def Src (P : Program) (w : World) (ui eti : TI) (n : Nat) (xv : Value) (vnew : List Value) : Prop :=
  ((∀ k, ui.desc ≠ .int k) ∧ (Builtin.lenOf xv).run P w = .ok n w ∧ ∀ w' : World, w'.heap = w.heap → (Builtin.firstCells eti.size n xv).run P w' = .ok vnew.toArray w') ∨
  ((∃ k, ui.desc = .int k) ∧ (∃ k, xv = .int k (n : Int)) ∧ n ≤ 2 ^ 20 ∧ n * eti.size ≠ 0 ∧ vnew = (List.replicate n eti.zero).flatten)

section
variable {P : Program} {E : Env} (ok : EnvOK P E) {I : Imm} {ι : Inj} {H : Heap} {w : World}
include ok

/-- append where the array is full: a new one. -/
theorem append_grow (hr : RelH I ι H w) {t u el : TypeId} {ti ui eti : TI} (hty : E.ty t = some ti) (hui : E.ty u = some ui) (hd : ti.desc = .slice el) (he : E.ty el = some eti)
    {base : Option Addr} {sLen sCap n : Nat} {xv : Value} {ats : Array TypeId} {ty : TypeId} (h0 : ats[0]? = some t) (h1 : ats[1]? = some u)
    {new old : List AV} {vnew : List Value} (hsrc : Src P w ui eti n xv vnew) (hvn : VRs I ι w new vnew)
    {vold : List Value} (hold : ∀ w' : World, w'.heap = w.heap → (Builtin.firstCells eti.size sLen (.slice base sLen sCap)).run P w' = .ok vold.toArray w') (hvo : VRs I ι w old vold) (hol : old.length = sLen * eti.size)
    (hcap : sCap < sLen + n) (hs1 : sLen + n ≤ 2 ^ 20) (hs2 : eti.bytes ≤ 2 ^ 20) (hz : eti.zero.length = eti.size) (hz0 : eti.size ≠ 0) (hnl : new.length = n * eti.size)
    {m id : Nat} {H' : Heap} (hm : m ≤ old.length) (hid : ι id = none) (hwf : H'.WF) (hn' : H.n ≤ H'.n) (hlt : id < H'.n) (hget : H'.get id = .cells m (old ++ new)) (hkeep : ∀ j, j ≠ id → H'.get j = H.get j) :
    ∃ I' ι' w' vm, RelH I' ι' H' w' ∧ VR I' ι' w' (.sl id 0 (sLen + n) eti.size none) vm ∧ Ext I ι H w I' ι' H' w' ∧ (∀ j, j ≠ id → ι' j = ι j) ∧ (Builtin.append_ ats ty #[.slice base sLen sCap, xv]).run P w = .ok vm w' := by
  obtain ⟨w1, hw1⟩ : ∃ w1 : World, w1 = { w with drawn := w.drawn + 1 } := ⟨_, rfl⟩
  have hwh : w1.heap = w.heap := by rw [hw1]
  have hr1 : RelH I ι H w1 := relH_heap hwh hr
  have hvn2 := vrs_heap hwh hvn
  obtain ⟨z, hz1, hz2, _⟩ := run_zeroValue' (P := P) (w := w1) ok he
  obtain ⟨inf, hi1, hi2⟩ := run_bytes' (P := P) (w := w) ok he
  obtain ⟨nc, hncdef⟩ : ∃ nc, nc = (Question.appendCap (sLen + n) sCap el).cut (w.tape w.drawn (.appendCap (sLen + n) sCap el)) := ⟨_, rfl⟩
  have hnc : sLen + n ≤ nc := by rw [hncdef]; simp [Question.cut]
  let cells : List Value := vold ++ vnew ++ (Builtin.zeroCells z.cells (nc - (sLen + n))).toList
  have hzs : z.cells.size = eti.size := by have : z.cells.toList.length = eti.zero.length := by rw [hz2]
                                           simp at this; omega
  have hcl : cells.length = nc * eti.size := by
    have e1 := hvo.len; have e2 := hvn2.len
    simp only [cells, List.length_append, Builtin.zeroCells, Array.length_toList, Array.size_map, Array.size_range, hzs]
    rw [e1, e2, hol, hnl, ← Nat.add_mul, ← Nat.add_mul]
    congr 1; omega
  have hcellw : ∀ j (v : Value), cells[j]? = some v → (wpush w1 (.cells cells.toArray el)).cell? ⟨w1.heap.size, 0 + j, none⟩ = some v := by
    intro j v hj
    exact cell?_eq.2 ⟨_, _, _, wpush_new, by simpa using hj⟩
  have hlen : (sLen + n) * eti.size ≤ cells.length := by rw [hcl]; exact Nat.mul_le_mul_right _ hnc
  have hmc : m ≤ cells.length := by
    have : sLen * eti.size ≤ (sLen + n) * eti.size := Nat.mul_le_mul_right _ (by omega)
    omega
  have hI : ∀ b o, I b o → I.with w1.heap.size 0 m b o := fun _ _ h => .inl h
  obtain ⟨r1, x1⟩ := newBlk' (I' := I.with w1.heap.size 0 m) hr1 (.cells m (old ++ new)) (.cells cells.toArray el) id (nc * eti.size) hI
    (fun b o' h => by
      rcases h with h | ⟨rfl, _, h⟩
      · exact .inl h
      · refine .inr ⟨rfl, ?_, fun hin => by have := hin.2.1; dsimp only at this; omega⟩
        have hlt' : o' < cells.length := by omega
        refine ⟨cells[o'], ?_⟩
        have := hcellw o' cells[o'] (by simp [hlt'])
        rwa [Nat.zero_add] at this) hid hwf hn' hlt hget hkeep (fun b o h => h.1) (by
      refine ⟨by simp; omega, by rw [Nat.add_mul] at hlen; simp; omega, fun i hi => .inr ⟨rfl, by dsimp only; omega, by dsimp only; omega⟩, fun i hi => ?_, fun i hi => ?_, fun i y hy => ?_⟩
      · have : i < cells.length := by rw [hcl]; exact hi
        exact ⟨cells[i], hcellw i _ (by simp [this])⟩
      · unfold World.frozen?; dsimp only; rw [wpush_new]; simp
      · have hvs := ((vrs_heap hwh hvo).append hvn2)
        obtain ⟨v, hv1, hv2⟩ := hvs.get hy
        refine ⟨v, hcellw i v ?_, hv2.mono hI (fun b o u _ hu => ?_) (Inj.put_mono hid)⟩
        · simp only [cells]; rw [List.getElem?_append_left (List.getElem?_eq_some_iff.1 hv1).1]; exact hv1
        · rw [cell?_congr (wpush_old (w := w1) (cell?_lt hu))]; exact hu)
  have hx0 : Ext I ι H w I ι H w1 := ext_heap hwh (by rw [hw1]) (by rw [hw1]) (by rw [hw1]) (by rw [hw1]; exact Nat.le_succ _)
  refine ⟨_, _, _, _, r1, VR.sl (base := some ⟨w1.heap.size, 0, none⟩) (c := nc) Inj.put_same hnc (by simp) (.inr rfl) (by intro _; omega), hx0.trans x1, fun j hj => Inj.put_ne hj, ?_⟩
  have hch : (choose (.appendCap (sLen + n) sCap el)).run P w = .ok nc w1 := by rw [hncdef, hw1]; rfl
  obtain ⟨inf1, hj1, _⟩ := run_bytes' (P := P) (w := w1) ok he
  have harr : vold.toArray ++ vnew.toArray ++ Builtin.zeroCells z.cells (nc - (sLen + n)) = cells.toArray := by
    apply Array.ext'; simp [cells]
  have hcapb : ¬ (Builtin.nextslicecap (sLen + n) sCap * inf.bytes > 2 ^ 48) := by
    have a := nextcap_le hcap
    have b := Nat.mul_le_mul a (hi2 ▸ hs2 : inf.bytes ≤ 2 ^ 20)
    have c : (16 * (sLen + n) + 20000) * 2 ^ 20 ≤ 2 ^ 48 := by omega
    omega
  have hmax : (IntKind.i64.max : Int) = 9223372036854775807 := by decide
  rcases hsrc with ⟨hnz, hlenOf, hfirst⟩ | ⟨⟨k, hk⟩, ⟨k', rfl⟩, hn2, hn0, rfl⟩
  · have hvn1 := hfirst w1 hwh
    have hnotbig : ¬ (((sLen + n : Nat) : Int) > IntKind.i64.max ∧ (False ∨ inf.bytes = 0)) := by
      intro hh; omega
    unfold Builtin.append_
    simp only [h0, h1, List.getElem?_toArray, List.getElem?_cons_zero, List.getElem?_cons_succ, Sem.run_bind, run_underlying' ok hty, hd, Result.andThen_ok, run_sizeOf' ok he, run_underlying' ok hui, Sem.run_pure]
    simp only [Bool.false_eq_true, if_false, Bool.not_false, if_true]
    simp only [Sem.run_bind, hlenOf, Result.andThen_ok]
    rw [if_neg (by omega)]
    simp only [Sem.run_bind, hi1, Result.andThen_ok]
    rw [if_neg hnotbig]
    simp only [Sem.run_bind, hi1, Result.andThen_ok]
    rw [if_neg hcapb]
    simp only [Sem.run_bind, hch, Result.andThen_ok, hj1, run_askRoom, hold w1 hwh, hvn1, hz1, newRow, run_newObj, Sem.run_pure]
    rw [harr]
  · have hwrap : IntKind.i64.wrap (n : Int) = (n : Int) := by unfold IntKind.wrap; simp [IntKind.bits, IntKind.signed]; omega
    have hbn : ¬ ((n : Int) * (inf.bytes : Int) > 2 ^ 48) := by
      have hb : (inf.bytes : Int) ≤ 2 ^ 20 := by rw [hi2]; exact_mod_cast hs2
      have h2 : (n : Int) * (inf.bytes : Int) ≤ 2 ^ 20 * 2 ^ 20 := Int.mul_le_mul (by omega) hb (by omega) (by omega)
      omega
    have hnotbig : ¬ (((sLen + n : Nat) : Int) > IntKind.i64.max ∧ (True ∨ inf.bytes = 0)) := by
      intro hh; omega
    have hzne : eti.zero ≠ [] := by intro e; rw [e] at hz; simp at hz; omega
    have hz3 := zero_rep (n := n) hzne z.cells hz2
    have hzc : Builtin.zeroCells z.cells n = ((List.replicate n eti.zero).flatten).toArray := by
      apply Array.ext'
      unfold Builtin.zeroCells
      rw [hzs, ← hz]; rw [← hz3]
      rw [show z.cells.size = eti.zero.length by omega]
    unfold Builtin.append_
    simp only [h0, h1, List.getElem?_toArray, List.getElem?_cons_zero, List.getElem?_cons_succ, Sem.run_bind, run_underlying' ok hty, hd, Result.andThen_ok, run_sizeOf' ok he, run_underlying' ok hui, Sem.run_pure, hk]
    simp only [if_true, Bool.not_true, Bool.false_eq_true, if_false, Sem.run_bind, Go.asInt, run_asIntOf, Result.andThen_ok, Sem.run_pure, hwrap]
    rw [if_neg (by omega)]
    simp only [Sem.run_bind, Sem.run_pure, hi1, Result.andThen_ok]
    rw [if_neg hbn]
    simp only [Sem.run_bind, Sem.run_pure, Result.andThen_ok, Int.toNat_natCast]
    rw [if_neg (by omega)]
    simp only [Sem.run_bind, hi1, Result.andThen_ok]
    rw [if_neg hnotbig]
    simp only [Sem.run_bind, hi1, Result.andThen_ok]
    rw [if_neg hcapb]
    simp only [hn0, if_false, Sem.run_bind, hch, Result.andThen_ok, hj1, run_askRoom, hold w1 hwh, hz1, newRow, run_newObj, Sem.run_pure, hzc]
    rw [harr]

/-- append where there is room. -/
theorem append_room {t u el : TypeId} {ti ui eti : TI} (hty : E.ty t = some ti) (hui : E.ty u = some ui) (hd : ti.desc = .slice el) (he : E.ty el = some eti)
    {k q sLen sCap n : Nat} {xv : Value} {ats : Array TypeId} {ty : TypeId} (h0 : ats[0]? = some t) (h1 : ats[1]? = some u)
    {vs : List Value} (hsrc : Src P w ui eti n xv vs) {w' : World} (hs2 : eti.bytes ≤ 2 ^ 20) (hz : eti.zero.length = eti.size) (hz0 : eti.size ≠ 0)
    (hst : (storeCells ⟨k, q + sLen * eti.size, none⟩ vs 0).run P w = .ok () w') (hcap : sLen + n ≤ sCap) :
    (Builtin.append_ ats ty #[.slice (some ⟨k, q, none⟩) sLen sCap, xv]).run P w = .ok (.slice (some ⟨k, q, none⟩) (sLen + n) sCap) w' := by
  obtain ⟨inf, hi1, hi2⟩ := run_bytes' (P := P) (w := w) ok he
  obtain ⟨z, hz1, hz2, _⟩ := run_zeroValue' (P := P) (w := w) ok he
  have hzs : z.cells.size = eti.size := by have : z.cells.toList.length = eti.zero.length := by rw [hz2]
                                           simp at this; omega
  rcases hsrc with ⟨hnz, hlenOf, hfirst⟩ | ⟨⟨k, hk⟩, ⟨k', rfl⟩, hn2, hn0, rfl⟩
  · unfold Builtin.append_
    simp only [h0, h1, List.getElem?_toArray, List.getElem?_cons_zero, List.getElem?_cons_succ, Sem.run_bind, run_underlying' ok hty, hd, Result.andThen_ok, run_sizeOf' ok he, run_underlying' ok hui, Sem.run_pure]
    simp only [Bool.false_eq_true, if_false, Bool.not_false, if_true]
    simp only [Sem.run_bind, hlenOf, Result.andThen_ok]
    rw [if_pos hcap]
    simp only [Sem.run_bind, hfirst w rfl, Result.andThen_ok, Addr.add_none, hst, Sem.run_pure]
  · have hwrap : IntKind.i64.wrap (n : Int) = (n : Int) := by unfold IntKind.wrap; simp [IntKind.bits, IntKind.signed]; omega
    have hbn : ¬ ((n : Int) * (inf.bytes : Int) > 2 ^ 48) := by
      have hb : (inf.bytes : Int) ≤ 2 ^ 20 := by rw [hi2]; exact_mod_cast hs2
      have h2 : (n : Int) * (inf.bytes : Int) ≤ 2 ^ 20 * 2 ^ 20 := Int.mul_le_mul (by omega) hb (by omega) (by omega)
      omega
    have hzne : eti.zero ≠ [] := by intro e; rw [e] at hz; simp at hz; omega
    have hz3 := zero_rep (n := n) hzne z.cells hz2
    have hzc : Builtin.zeroCells z.cells n = ((List.replicate n eti.zero).flatten).toArray := by
      apply Array.ext'
      unfold Builtin.zeroCells
      rw [hzs, ← hz]; rw [← hz3]
      rw [show z.cells.size = eti.zero.length by omega]
    unfold Builtin.append_
    simp only [h0, h1, List.getElem?_toArray, List.getElem?_cons_zero, List.getElem?_cons_succ, Sem.run_bind, run_underlying' ok hty, hd, Result.andThen_ok, run_sizeOf' ok he, run_underlying' ok hui, Sem.run_pure, hk]
    simp only [if_true, Bool.not_true, Bool.false_eq_true, if_false, Sem.run_bind, Go.asInt, run_asIntOf, Result.andThen_ok, Sem.run_pure, hwrap]
    rw [if_neg (by omega)]
    simp only [Sem.run_bind, Sem.run_pure, hi1, Result.andThen_ok]
    rw [if_neg hbn]
    simp only [Sem.run_bind, Sem.run_pure, Result.andThen_ok, Int.toNat_natCast]
    rw [if_pos hcap]
    simp only [hn0, if_false, Sem.run_bind, hz1, Result.andThen_ok, Sem.run_pure, hzc, Addr.add_none, hst]
end
end Go.Ab
