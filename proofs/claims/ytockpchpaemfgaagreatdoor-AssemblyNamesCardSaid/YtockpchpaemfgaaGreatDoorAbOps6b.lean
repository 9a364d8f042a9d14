/- append, and new blocks. -/
import Derived.Test.YtockpchpaemfgaaGreatDoorAbOps6
set_option linter.all false
namespace Go.Ab

section
variable {P : Program} {E : Env} (ok : EnvOK P E) {I : Imm} {ι : Inj} {H : Heap} {w : World}
include ok

omit ok in
theorem firstCells_zero {esz : Nat} {x : AV} {xv : Value} {m : Nat} (h : sourceLen x = some m) (hx : VR I ι w x xv) : (Builtin.firstCells esz 0 xv).run P w = .ok #[] w := by
  have zero : ∀ base len c, (Builtin.firstCells esz 0 (.slice base len c)).run P w = .ok #[] w := by
    intro base len c
    cases base with
    | none => rfl
    | some a => simp only [Builtin.firstCells, Nat.zero_mul]; rfl
  unfold sourceLen at h
  split at h <;> simp only [Option.some.injEq, reduceCtorEq] at h
  · have e := vr_leaf hx; subst e; exact zero _ _ _
  · have e := vr_leaf hx; subst e
    simp only [Builtin.firstCells, Sem.run_pure]
    congr 1
    apply Array.ext'
    simp [ByteArray.data_extract]
  · subst h
    have hx' := by cases hx with | d h => exact h
    obtain ⟨⟨base, c, rfl, _⟩, _⟩ := dr_lit hx'
    exact zero _ _ _
  · cases hx <;> exact zero _ _ _

/-- append of nothing. -/
theorem append_none {t u el : TypeId} {ti ui eti : TI} (hty : E.ty t = some ti) (hui : E.ty u = some ui) (hd : ti.desc = .slice el) (he : E.ty el = some eti)
    {base : Option Addr} {sLen sCap : Nat} {xv : Value} {ats : Array TypeId} {ty : TypeId} (h0 : ats[0]? = some t) (h1 : ats[1]? = some u)
    (hsrc : ((∀ k, ui.desc ≠ .int k) ∧ ∃ x, sourceLen x = some 0 ∧ VR I ι w x xv) ∨ ((∃ k, ui.desc = .int k) ∧ ∃ k, xv = .int k 0)) (hcap : sLen ≤ sCap) :
    (Builtin.append_ ats ty #[.slice base sLen sCap, xv]).run P w = .ok (.slice base sLen sCap) w := by
  rcases hsrc with ⟨hnz, x, hlen, hx⟩ | ⟨⟨k, hk⟩, ⟨k', rfl⟩⟩
  · unfold Builtin.append_
    simp only [h0, h1, List.getElem?_toArray, List.getElem?_cons_zero, List.getElem?_cons_succ, Sem.run_bind, run_underlying' ok hty, hd, Result.andThen_ok, run_sizeOf' ok he, run_underlying' ok hui, Sem.run_pure]
    simp only [Bool.false_eq_true, if_false, Bool.not_false, if_true]
    simp only [Sem.run_bind, lenOf_run hlen hx, Result.andThen_ok]
    rw [if_pos (by omega)]
    simp only [Sem.run_bind, firstCells_zero hlen hx, Result.andThen_ok]
    cases base with
    | none => simp only [Sem.run_pure, Nat.add_zero]
    | some a => simp only [storeCells, Sem.run_bind, Sem.run_pure, Result.andThen_ok, Nat.add_zero]
  · obtain ⟨inf, hi1, hi2⟩ := run_bytes' (P := P) (w := w) ok he
    have hwrap : IntKind.i64.wrap 0 = 0 := by decide
    unfold Builtin.append_
    simp only [h0, h1, List.getElem?_toArray, List.getElem?_cons_zero, List.getElem?_cons_succ, Sem.run_bind, run_underlying' ok hty, hd, Result.andThen_ok, run_sizeOf' ok he, run_underlying' ok hui, Sem.run_pure, hk]
    simp only [if_true, Bool.not_true, Bool.false_eq_true, if_false, Sem.run_bind, Go.asInt, run_asIntOf, Result.andThen_ok, Sem.run_pure, hwrap]
    rw [if_neg (by omega)]
    simp only [Sem.run_bind, Sem.run_pure, hi1, Result.andThen_ok]
    rw [if_neg (by simp)]
    simp only [Sem.run_bind, Sem.run_pure, Result.andThen_ok]
    rw [if_pos (show sLen + Int.toNat 0 ≤ sCap by simpa using hcap)]
    simp only [Int.toNat_zero, Nat.zero_mul, if_true, Sem.run_bind, Sem.run_pure, Result.andThen_ok, Nat.add_zero]
    cases base with
    | none => rfl
    | some a => simp only [storeCells, Sem.run_bind, Sem.run_pure, Result.andThen_ok]

theorem appendPart_run (hr : RelH I ι H w) {t u el : TypeId} {ti ui eti : TI} (hty : E.ty t = some ti) (hui : E.ty u = some ui) (hd : ti.desc = .slice el) (he : E.ty el = some eti)
    {s : AV} {n : Nat} {p : Part} {sv xv : Value} {ats : Array TypeId} {ty : TypeId} (h0 : ats[0]? = some t) (h1 : ats[1]? = some u) (hn : n ≠ 0)
    (hsrc : ∀ cs, p.get H = some cs → ∃ vs, Src P w ui eti n xv vs ∧ VRs I ι w cs vs ∧ cs.length = n * eti.size) (hs : VR I ι w s sv)
    {A : Action} (h : appendPart eti s n p = some A) {rid : Option Nat} (hrid : ∀ id, rid = some id → ι id = none) {v : AV} {H' : Heap} (hex : A.exec rid H = some (v, H')) :
    Post I ι H w rid H' v fun w' vm => (Builtin.append_ ats ty #[sv, xv]).run P w = .ok vm w' := by
  unfold appendPart at h
  split at h
  case h_2 => cases h
  rename_i hz0 hz hb
  have hz0 := of_nbeq_f hz0
  have hz := (lenIs_eq _ _).1 hz
  have hb : eti.bytes ≤ 2 ^ 20 := of_nble hb
  have laid : ∀ {H1 : Heap} {x : Blk} {f : Nat → AV}, RelH I ι H1 w → H1.n = H.n → lay H1 rid x f = some (v, H') → ∃ id, ι id = none ∧ v = f id ∧ H'.WF ∧ H1.n ≤ H'.n ∧ id < H'.n ∧ H'.get id = x ∧ (∀ j, j ≠ id → H'.get j = H1.get j) ∧
      (∀ j, j < H.n → rid ≠ some j → j ≠ id) := by
    intro H1 x f hr1 hn1 hl
    obtain ⟨id, a, b, c, d, e, f', g⟩ := lay_spec hr1.wf hl
    refine ⟨id, ?_, a, b, c, d, e, f', fun j hj hne => ?_⟩
    · rcases g with ⟨_, g⟩ | g
      · exact inj_none hr1 (by omega)
      · exact hrid id g
    · rcases g with ⟨_, g⟩ | g
      · omega
      · intro e; subst e; exact hne g
  split at h
  · -- onto a nil slice
    have e := vr_leaf hs; subst e
    cases hsm : small n with
    | false => rw [hsm] at h; cases h
    | true =>
      rw [hsm] at h; cases h
      have hsm : n ≤ 2 ^ 20 := of_nble hsm
      simp only [Action.exec] at hex
      split at hex
      case h_2 => cases hex
      rename_i cs hcs
      split at hex
      case h_2 => cases hex
      obtain ⟨vs, s1, s2, s3⟩ := hsrc cs (gather_one hcs)
      obtain ⟨id, l1, l2, l3, l4, l5, l6, l7, l8⟩ := laid hr rfl hex
      obtain ⟨I', ι', w', vm, a, b, c, d, e⟩ := append_grow ok hr hty hui hd he (base := none) (sLen := 0) (sCap := 0) (ty := ty) h0 h1 s1 s2 (old := []) (vold := []) (fun _ _ => rfl) VRs.nil (by simp) (by omega) (by omega) hb hz hz0 s3
        (m := 0) (Nat.zero_le _) l1 l3 l4 l5 (by simpa using l6) l7
      rw [Nat.zero_add] at b
      exact ⟨I', ι', w', vm, a, by rw [l2]; exact b, c, fun j hj hne => d j (l8 j hj hne), e⟩
  · cases hsm : small (Nat.add _ n) with
    | false => rw [hsm] at h; cases h
    | true => rw [hsm] at h; cases h
  · rename_i b off len esz' cap
    split at h
    case h_2 => cases h
    rename_i hesz hsm
    have hesz := of_nbeq hesz
    subst hesz
    have hsm : len + n ≤ 2 ^ 20 := of_nble hsm
    split at h
    · -- a capacity that is not known
      cases h
      simp only [Action.exec] at hex
      split at hex
      case h_2 => cases hex
      rename_i cs hcs
      split at hex
      case h_2 => cases hex
      rename_i hcell
      obtain ⟨old, new, ho, hnw, rfl⟩ := gather_two hcs
      rw [allCells_eq] at hcell
      simp only [List.all_append, Bool.and_eq_true] at hcell
      obtain ⟨m, all, hg, hcut⟩ := old_get ho
      rw [hg] at hex
      dsimp only at hex
      cases hml : Nat.ble m (Nat.add off (Nat.mul len eti.size)) with
      | false => rw [hml] at hex; cases hex
      | true =>
      rw [hml] at hex
      simp only [cond_true] at hex
      have hml : m ≤ off + len * eti.size := of_nble hml
      obtain ⟨vs, s1, s2, s3⟩ := hsrc new hnw
      have hone := vrs_oneCell s2 hcell.2
      obtain ⟨c1, c2, c3⟩ := cut_spec hcut
      have c1 : off + len * eti.size ≤ all.length := c1
      have c2 : old = (all.drop off).take (len * eti.size) := c2
      have c3 : old.length = len * eti.size := c3
      cases hs with
      | sl hbi hc hk hbase hext =>
        rename_i c k o e base
        have hex2 := hext rfl
        have hbr := hr.blk b _ hbi
        rw [hg] at hbr
        have hce : all.length ≤ e := hbr.2.1
        have hlt := (hr.lt b _ hbi).1
        obtain ⟨kb1, kb2⟩ := killBlk hr b
        obtain ⟨id, l1, l2, l3, l4, l5, l6, l7, l8⟩ := laid kb1 Heap.n_set hex
        rw [Heap.n_set] at l4
        have hidb : id ≠ b := by intro e; subst e; rw [l1] at hbi; cases hbi
        by_cases hroom : len + n ≤ c
        · rcases hbase with hb0 | hb0
          · omega
          · subst hb0
            have hle2 : (len + n) * eti.size ≤ c * eti.size := Nat.mul_le_mul_right _ hroom
            rw [Nat.add_mul] at hle2
            have htk : (all.take (off + len * eti.size)).length = off + len * eti.size := by rw [List.length_take]; omega
            obtain ⟨a1, a2, a3, a4⟩ := putCells (P := P) hr hbi hg (p := off + len * eti.size) (cs2 := all.take (off + len * eti.size) ++ new) hml (by rw [List.length_append, htk]; omega) s2 hone (by omega) (by rw [List.length_append, htk]; omega) (fun i y hy => by
              by_cases hi : i < off + len * eti.size
              · rw [List.getElem?_append_left (by omega), List.getElem?_take, if_pos hi] at hy; exact .inr ⟨.inl hi, hy⟩
              · rw [List.getElem?_append_right (by omega), htk] at hy
                have := (List.getElem?_eq_some_iff.1 hy).1
                exact .inl ⟨by omega, by omega, hy⟩)
            have hdrop : (all.take (off + len * eti.size) ++ new).drop off = old ++ new := by
              rw [List.drop_append_of_le_length (by omega), List.drop_take, c2]
              congr 2; omega
            obtain ⟨b1, b2⟩ := renameBlk a2 hbi (cs := all.take (off + len * eti.size) ++ new) (Heap.get_set_same hr.wf hlt) (off := off) (by rw [List.length_append, htk]; omega) l1 l3 (by rw [Heap.n_set]; exact l4) l5 (by rw [hdrop]; exact l6)
              (fun j hj => by
                rw [l7 j hj]
                by_cases hjb : j = b
                · subst hjb; rw [Heap.get_set_same hr.wf hlt, Heap.get_set_same (Heap.wf_set hr.wf) (by rw [Heap.n_set]; exact hlt)]
                · rw [Heap.get_set_ne hjb, Heap.get_set_ne hjb, Heap.get_set_ne hjb])
            refine ⟨I, _, _, _, b1, ?_, a3.trans b2, fun j hj hne => Inj.put_ne (l8 j hj hne), append_room ok hty hui hd he (q := o + off) h0 h1 s1 hb hz hz0 (by rw [Nat.add_assoc]; exact a1) hroom⟩
            rw [l2]
            exact .sl Inj.put_same hroom (by simp) (.inr (by simp)) (by intro _; omega)
        · have key : ∀ vo : List Value, VRs I ι w old vo → (∀ w' : World, w'.heap = w.heap → (Builtin.firstCells eti.size len (.slice base len c)).run P w' = .ok vo.toArray w') →
              Post I ι H w rid H' v fun w' vm => (Builtin.append_ ats ty #[.slice base len c, xv]).run P w = .ok vm w' := by
            intro vo ho1 ho2
            obtain ⟨I', ι', w', vm, a, bb, cc, d, e⟩ := append_grow ok kb1 hty hui hd he (base := base) (sLen := len) (sCap := c) (ty := ty) h0 h1 s1 s2 ho2 ho1 c3 (by omega) (by omega) hb hz hz0 s3
              (m := m - off) (by omega) l1 l3 (by rw [Heap.n_set]; exact l4) l5 l6 l7
            exact ⟨I', ι', w', vm, a, by rw [l2]; exact bb, kb2.trans cc, fun j hj hne => d j (l8 j hj hne), e⟩
          by_cases hl0 : len = 0
          · subst hl0
            have hd0 : old = [] := by apply List.eq_nil_of_length_eq_zero; rw [c3]; simp
            refine key [] (by rw [hd0]; exact VRs.nil) fun w' _ => ?_
            cases base with
            | none => rfl
            | some a => simp only [Builtin.firstCells, Nat.zero_mul]; rfl
          · rcases hbase with hb0 | hb0
            · omega
            · subst hb0
              obtain ⟨vo, ho1, ho2⟩ := br_cut hr hbi hg hcut
              exact key vo ho1 fun w' hw' => run_loadCells (by rw [ho1.len, c3]) fun j v hj => by rw [wheap_cell hw']; exact ho2 j v hj
    · rename_i kc
      split at h
      · -- room
        rename_i hroom
        have hroom : len + n ≤ kc := of_nble hroom
        cases h
        simp only [Action.exec] at hex
        split at hex
        case h_2 => cases hex
        rename_i new hnw
        split at hex
        case h_2 => cases hex
        rename_i m all hcell hg
        rw [allCells_eq] at hcell
        cases hml : Nat.ble m (Nat.add off (Nat.mul len eti.size)) with
        | false => rw [hml] at hex; cases hex
        | true =>
        rw [hml] at hex
        simp only [cond_true] at hex
        have hml : m ≤ off + len * eti.size := of_nble hml
        split at hex
        case h_2 => cases hex
        rename_i cs2 hsp
        obtain ⟨hle, rfl⟩ := splice_some hsp
        cases hex
        have hle : off + len * eti.size + new.length ≤ all.length := hle
        obtain ⟨vs, s1, s2, s3⟩ := hsrc new hnw
        have hone := vrs_oneCell s2 hcell
        cases hs with
        | sl hbi hc hk hbase hext =>
          rename_i c k o e base
          have hck := hk _ rfl
          rcases hbase with hb0 | hb0
          · omega
          · subst hb0
            have hbr := hr.blk b _ hbi
            rw [hg] at hbr
            have hce : all.length ≤ e := hbr.2.1
            obtain ⟨a1, a2, a3, a4⟩ := putCells (P := P) hr hbi hg (p := off + len * eti.size) (cs2 := spl all (off + len * eti.size) new) hml (by rw [spl_length hle]; exact hbr.1) s2 hone (by omega) (by rw [spl_length hle]; exact hce) (splice_cases hle)
            refine ⟨I, ι, _, _, a2, ?_, a3, fun _ _ _ => rfl, append_room ok hty hui hd he (q := o + off) h0 h1 s1 hb hz hz0 (by rw [Nat.add_assoc]; exact a1) (show len + n ≤ c by omega)⟩
            have hlc : Nat.add len n ≤ c := by show len + n ≤ c; omega
            exact .sl hbi hlc hk (.inr rfl) (by simp)
        | sl0 => omega
      · -- no room, nothing there
        rename_i hroom hl0
        have hroom := of_nble_f hroom
        have hl0 := of_nbeq hl0
        subst hl0
        cases h
        simp only [Action.exec] at hex
        split at hex
        case h_2 => cases hex
        rename_i cs hcs
        split at hex
        case h_2 => cases hex
        obtain ⟨vs, s1, s2, s3⟩ := hsrc cs (gather_one hcs)
        obtain ⟨id, l1, l2, l3, l4, l5, l6, l7, l8⟩ := laid hr rfl hex
        have hroom : ¬ 0 + n ≤ kc := hroom
        have key : ∀ base c, c = kc → Post I ι H w rid H' v fun w' vm => (Builtin.append_ ats ty #[.slice base 0 c, xv]).run P w = .ok vm w' := by
          intro base c hc
          obtain ⟨I', ι', w', vm, a, b, c, d, e⟩ := append_grow ok hr hty hui hd he (base := base) (sLen := 0) (sCap := c) (ty := ty) h0 h1 s1 s2 (old := []) (vold := []) (fun w' _ => by
            cases base with
            | none => rfl
            | some a => simp only [Builtin.firstCells, Nat.zero_mul]; rfl) VRs.nil (by simp) (by omega) (by omega) hb hz hz0 s3
            (m := 0) (Nat.zero_le _) l1 l3 l4 l5 (by simpa using l6) l7
          rw [Nat.zero_add] at b
          exact ⟨I', ι', w', vm, a, by rw [l2]; exact b, c, fun j hj hne => d j (l8 j hj hne), e⟩
        cases hs with
        | sl hb hc hk hbase hext => exact key _ _ (hk _ rfl)
        | sl0 => exact key _ _ rfl
      · -- no room
        rename_i hroom hl0
        have hroom := of_nble_f hroom
        have hroom : ¬ len + n ≤ kc := hroom
        have hl0 := of_nbeq_f hl0
        cases h
        simp only [Action.exec] at hex
        split at hex
        case h_2 => cases hex
        rename_i cs hcs
        split at hex
        case h_2 => cases hex
        obtain ⟨old, new, ho, hnw, rfl⟩ := gather_two hcs
        obtain ⟨m, all, hg, hcut⟩ := old_get ho
        obtain ⟨vs, s1, s2, s3⟩ := hsrc new hnw
        have c3 : old.length = len * eti.size := (cut_spec hcut).2.2
        obtain ⟨id, l1, l2, l3, l4, l5, l6, l7, l8⟩ := laid hr rfl hex
        cases hs with
        | sl hbi hc hk hbase hext =>
          rename_i c k o e base
          have hck := hk _ rfl
          rcases hbase with hb0 | hb0
          · omega
          · subst hb0
            obtain ⟨vo, ho1, ho2⟩ := br_cut hr hbi hg hcut
            obtain ⟨I', ι', w', vm, a, b, c, d, e⟩ := append_grow ok hr hty hui hd he (base := some ⟨k, o + off, none⟩) (sLen := len) (sCap := c) (ty := ty) h0 h1 s1 s2 (old := old) (vold := vo) (fun w' hw' => run_loadCells (by rw [ho1.len, c3]) fun j v hj => by rw [wheap_cell hw']; exact ho2 j v hj) ho1 c3 (by omega) (by omega) hb hz hz0 s3
              (m := 0) (Nat.zero_le _) l1 l3 l4 l5 l6 l7
            exact ⟨I', ι', w', vm, a, by rw [l2]; exact b, c, fun j hj hne => d j (l8 j hj hne), e⟩
        | sl0 => exact absurd rfl hl0
  · cases h

omit ok in
/-- A slice, as the model has it. -/
theorem isSl_shape {s : AV} {sv : Value} (hs : VR I ι w s sv) (h : isSl s = true) : ∃ base len c, sv = .slice base len c ∧ len ≤ c := by
  unfold isSl at h
  split at h
  · have e := vr_leaf hs; subst e; exact ⟨_, _, _, rfl, Nat.le_refl _⟩
  · have hs' := by cases hs with | d h => exact h
    obtain ⟨⟨base, c, rfl, hc⟩, _⟩ := dr_lit hs'
    exact ⟨_, _, _, rfl, hc⟩
  · cases hs with
    | sl hb hc hk hbase hext => exact ⟨_, _, _, rfl, hc⟩
    | sl0 => exact ⟨_, _, _, rfl, Nat.le_refl _⟩
  · cases h

theorem appendA_run (hr : RelH I ι H w) {t u : TypeId} {ui : TI} (hui : E.ty u = some ui) (hnz : ∀ k, ui.desc ≠ .int k) {s x : AV} {sv xv : Value} {ats : Array TypeId} {ty : TypeId}
    (h0 : ats[0]? = some t) (h1 : ats[1]? = some u) (hs : VR I ι w s sv) (hx : VR I ι w x xv) {A : Action} (h : appendA E t s x = some A) {rid : Option Nat} (hrid : ∀ id, rid = some id → ι id = none) {v : AV} {H' : Heap} (hex : A.exec rid H = some (v, H')) :
    Post I ι H w rid H' v fun w' vm => (Builtin.append_ ats ty #[sv, xv]).run P w = .ok vm w' := by
  unfold appendA at h
  split at h
  · cases h
  rename_i ti hty
  split at h
  case h_2 => cases h
  rename_i el hd
  split at h
  · cases h
  rename_i eti he
  split at h
  · cases h
  rename_i n hlen
  cases hn : Nat.beq n 0 with
  | true =>
    rw [hn] at h
    have := of_nbeq hn; subst this
    cases hsl : isSl s with
    | false => rw [hsl] at h; cases h
    | true =>
      rw [hsl] at h; cases h; cases hex
      obtain ⟨base, len, c, rfl, hc⟩ := isSl_shape hs hsl
      exact Post.same hr hs (append_none (I := I) (ι := ι) ok hty hui hd he h0 h1 (.inl ⟨hnz, x, hlen, hx⟩) hc)
  | false =>
    rw [hn] at h
    simp only [cond_false] at h
    split at h
    case h_2 => cases h
    rename_i p hp
    refine appendPart_run ok hr hty hui hd he h0 h1 (of_nbeq_f hn) (fun cs hcs => ?_) hs h hrid hex
    obtain ⟨⟨vs, a, b⟩, c⟩ := source_run (P := P) hr hp hcs hx
    exact ⟨vs, .inl ⟨hnz, lenOf_run hlen hx, a⟩, b, c⟩

theorem extendA_run (hr : RelH I ι H w) {t u : TypeId} {ui : TI} (hui : E.ty u = some ui) {k0 : IntKind} (hk0 : ui.desc = .int k0) {s x : AV} {sv xv : Value} {ats : Array TypeId} {ty : TypeId}
    (h0 : ats[0]? = some t) (h1 : ats[1]? = some u) (hs : VR I ι w s sv) (hx : VR I ι w x xv) {A : Action} (h : extendA E t s x = some A) {rid : Option Nat} (hrid : ∀ id, rid = some id → ι id = none) {v : AV} {H' : Heap} (hex : A.exec rid H = some (v, H')) :
    Post I ι H w rid H' v fun w' vm => (Builtin.append_ ats ty #[sv, xv]).run P w = .ok vm w' := by
  unfold extendA at h
  split at h
  case h_2 => cases h
  rename_i ti n hty hxn
  obtain ⟨k', rfl⟩ := asNat_spec hxn hx
  split at h
  case h_2 => cases h
  rename_i el hd
  split at h
  · cases h
  rename_i eti he
  cases hn : Nat.beq n 0 with
  | true =>
    rw [hn] at h
    have := of_nbeq hn; subst this
    cases hsl : isSl s with
    | false => rw [hsl] at h; cases h
    | true =>
      rw [hsl] at h; cases h; cases hex
      obtain ⟨base, len, c, rfl, hc⟩ := isSl_shape hs hsl
      exact Post.same hr hs (append_none (I := I) (ι := ι) ok hty hui hd he h0 h1 (.inr ⟨⟨_, hk0⟩, _, rfl⟩) hc)
  | false =>
    rw [hn] at h
    simp only [cond_false] at h
    cases hsm : small n with
    | false => rw [hsm] at h; cases h
    | true =>
    rw [hsm] at h
    simp only [cond_true] at h
    have hsm : n ≤ 2 ^ 20 := of_nble hsm
    have hn0 := of_nbeq_f hn
    refine appendPart_run ok hr hty hui hd he h0 h1 hn0 (fun cs hcs => ?_) hs h hrid hex
    have hz : eti.size ≠ 0 ∧ eti.zero.length = eti.size := by
      unfold appendPart at h
      split at h
      · rename_i a b _; exact ⟨of_nbeq_f a, (lenIs_eq _ _).1 b⟩
      · cases h
    simp only [Part.get, Option.some.injEq] at hcs
    subst hcs
    refine ⟨_, .inr ⟨⟨_, hk0⟩, ⟨_, rfl⟩, hsm, ?_, rfl⟩, ?_, ?_⟩
    · intro e; rcases Nat.mul_eq_zero.1 e with e | e
      · exact hn0 e
      · exact hz.1 e
    · rw [ok.za el eti he]
      refine vrs_flatten (by simp) fun i x v hx hv => ?_
      simp only [List.getElem?_replicate] at hx hv
      split at hx <;> simp_all
      subst hx hv
      exact VRs.leafs _
    · rw [ok.za el eti he]; simp [hz.2]
end
end Go.Ab
