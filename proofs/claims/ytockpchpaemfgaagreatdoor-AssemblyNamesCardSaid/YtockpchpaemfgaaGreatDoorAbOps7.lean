/- copy, maps, bytes to strings. -/
import Derived.Test.YtockpchpaemfgaaGreatDoorAbOps6b
set_option linter.all false
namespace Go.Ab

theorem strEq_true {a b : ByteArray} (h : strEq a b = true) : a = b := by
  rw [strEq_eq, toList_data, toList_data] at h
  have h := eq_of_beq h
  apply ByteArray.ext; apply Array.ext'; exact h
theorem strEq_beq {a b : ByteArray} {r : Bool} (h : strEq a b = r) : (a == b) = r := by
  obtain ⟨x⟩ := a
  obtain ⟨y⟩ := b
  rw [strEq_eq, toList_data, toList_data] at h
  rw [← h]
  show (x == y) = _
  rw [Bool.eq_iff_iff, beq_iff_eq, beq_iff_eq]
  exact ⟨fun e => by rw [e], fun e => Array.ext' e⟩
theorem bytes_self (a : ByteArray) : (a == a) = true := by
  obtain ⟨x⟩ := a
  show (x == x) = true
  simp

theorem run_getObj_map' {P : Program} {w : World} {r : Nat} {es : Array MapEntry} {clock : Nat} (hb : w.heap[r]? = some (.map es clock)) : (getObj r).run P w = .ok (.map es clock) w := by
  simp [getObj, Sem.run, hb]
theorem run_setObj_map' {P : Program} {w : World} {r : Nat} {es : Array MapEntry} {clock : Nat} (o : Obj) (hb : w.heap[r]? = some (.map es clock)) : (setObj r o).run P w = .ok () { w with heap := w.heap.setIfInBounds r o } := by
  simp [setObj, Sem.run, hb]

theorem sameLeaf_true {lk : LK} {a b : Value} (h : sameLeaf lk a b = some true) : a = b := by
  unfold sameLeaf at h
  split at h
  · rename_i k x k' y
    cases hk : Nat.beq (kindN k) (kindN k') with
    | false => rw [hk] at h; cases h
    | true =>
      rw [hk] at h
      have := kind_eq hk; subst this
      simp only [cond_true, Option.some.injEq, intEq_eq] at h
      rw [eq_of_beq h]
  · simp at h; rw [h]
  · simp only [Option.some.injEq] at h; rw [strEq_true h]
  · cases h

theorem sameCells_true {ks : List LK} : ∀ {xs ys : List Value}, sameCells ks (xs.map leaf) (ys.map leaf) = some true → xs = ys := by
  induction ks with
  | nil =>
    intro xs ys h
    cases xs <;> cases ys <;> simp [sameCells, leaf] at h ⊢
  | cons k ks ih =>
    intro xs ys h
    cases xs <;> cases ys <;> simp only [List.map_nil, List.map_cons, leaf, sameCells] at h
    · cases h
    · cases h
    · cases h
    · split at h
      · rename_i x y h1 h2
        simp only [Option.some.injEq, Bool.and_eq_true] at h
        obtain ⟨rfl, rfl⟩ := h
        rw [sameLeaf_true h1, ih h2]
      · cases h

theorem sameBits_leaf {lk : LK} {a : Value} {r : Bool} (h : sameLeaf lk a a = some r) (n : Nat) : Instr.sameBits n a a = true := by
  unfold sameLeaf at h
  split at h
  · cases n <;> simp [Instr.sameBits]
  · cases n <;> simp [Instr.sameBits]
  · cases n <;> simp [Instr.sameBits, bytes_self]
  · cases h

theorem sameBits_cells {ks : List LK} : ∀ {xs : List Value} {r : Bool}, sameCells ks (xs.map leaf) (xs.map leaf) = some r → ∀ n, (xs.zip xs).all (fun (x, y) => Instr.sameBits n x y) = true := by
  induction ks with
  | nil =>
    intro xs r h n
    cases xs with
    | nil => rfl
    | cons x xs => simp [sameCells, leaf] at h
  | cons k ks ih =>
    intro xs r h n
    cases xs with
    | nil => rfl
    | cons x xs =>
      simp only [List.map_cons, leaf, sameCells] at h
      split at h
      · rename_i a b h1 h2
        simp only [List.zip_cons_cons, List.all_cons, Bool.and_eq_true]
        exact ⟨sameBits_leaf h1 n, ih h2 n⟩
      · cases h

section
variable {P : Program} {E : Env} (ok : EnvOK P E) {I : Imm} {ι : Inj} {H : Heap} {w : World}
include ok

theorem copyA_run (hr : RelH I ι H w) {t : TypeId} {d s : AV} {dv sv : Value} {ats : Array TypeId} {ty : TypeId} (h0 : ats[0]? = some t)
    (hd : VR I ι w d dv) (hs : VR I ι w s sv) {A : Action} (h : copyA E t d s = some A) {rid : Option Nat} {v : AV} {H' : Heap} (hex : A.exec rid H = some (v, H')) :
    Post I ι H w rid H' v fun w' vm => (Builtin.copy_ ats ty #[dv, sv]).run P w = .ok vm w' := by
  unfold copyA at h
  split at h
  · cases h
  rename_i ti hty
  split at h
  · rename_i el hdd
    split at h
    · cases h
    rename_i eti he
    split at h
    · rename_i m b off len esz cap hm
      split at h
      case h_2 => cases h
      rename_i hz hz0
      have hz := of_nbeq hz
      have hz0 := of_nbeq_f hz0
      subst hz
      dsimp only at h
      rw [min_eq] at h
      have hlen : ∀ base c, dv = .slice base len c → ∀ n, n = Nat.min m len → ∀ vs : List Value, (Builtin.firstCells eti.size n sv).run P w = .ok vs.toArray w → ∀ w',
          ((match base with | some a => do storeCells a vs; pure (goInt n) | _ => pure (goInt n) : Sem Value)).run P w = .ok (goInt n) w' →
          (Builtin.copy_ ats ty #[dv, sv]).run P w = .ok (goInt n) w' := by
        intro base c e n hn vs hvs w' hst
        subst e hn
        unfold Builtin.copy_
        simp only [h0, List.getElem?_toArray, List.getElem?_cons_zero, List.getElem?_cons_succ, Sem.run_bind, run_underlying' ok hty, hdd, Result.andThen_ok, lenOf_run hm hs, run_sizeOf' ok he, hvs]
        exact hst
      cases hn0 : Nat.beq (min m len) 0 with
      | true =>
        rw [hn0] at h
        have hn0 := of_nbeq hn0
        cases h; cases hex
        have key : ∀ base c, dv = .slice base len c → (Builtin.copy_ ats ty #[dv, sv]).run P w = .ok (.int .i64 0) w := by
          intro base c e
          refine hlen base c e 0 hn0.symm [] (firstCells_zero hm hs) w ?_
          cases base with
          | none => rfl
          | some a => rfl
        cases hd with
        | sl => exact Post.same hr (VR.leaf _) (key _ _ rfl)
        | sl0 => exact Post.same hr (VR.leaf _) (key _ _ rfl)
      | false =>
        rw [hn0] at h
        have hn0 := of_nbeq_f hn0
        simp only [cond_false] at h
        split at h
        · cases h
        rename_i p hp
        cases h
        simp only [Action.exec] at hex
        split at hex
        · cases hex
        rename_i new hnew
        split at hex
        case h_2 => cases hex
        rename_i mm cs hcell hg
        rw [allCells_eq] at hcell
        cases hml : Nat.ble mm off with
        | false => rw [hml] at hex; cases hex
        | true =>
        rw [hml] at hex
        simp only [cond_true] at hex
        have hml : mm ≤ off := of_nble hml
        split at hex
        case h_2 => cases hex
        rename_i cs2 hsp
        obtain ⟨hle, rfl⟩ := splice_some hsp
        cases hex
        obtain ⟨⟨vnew, hvn1, hvn2⟩, hvl⟩ := source_run (P := P) hr hp hnew hs
        have hone := vrs_oneCell hvn2 hcell
        have hml2 : min m len ≤ len := Nat.min_le_right _ _
        cases hd with
        | sl hb hc hk hbase hext =>
          rename_i c k o e base
          rcases hbase with hb0 | hb0
          · omega
          · subst hb0
            have hbr := hr.blk b _ hb
            rw [hg] at hbr
            have hce : cs.length ≤ e := hbr.2.1
            obtain ⟨a1, a2, a3, a4⟩ := putCells (P := P) hr hb hg (p := off) (cs2 := spl cs off new) hml (by rw [spl_length hle]; exact hbr.1) hvn2 hone (by omega) (by rw [spl_length hle]; exact hce) (splice_cases hle)
            refine ⟨I, ι, _, _, a2, VR.leaf _, a3, fun _ _ _ => rfl, hlen _ _ rfl _ rfl vnew (hvn1 w rfl) _ ?_⟩
            simp only [Sem.run_bind, a1, Result.andThen_ok, Sem.run_pure]
        | sl0 => simp at hn0
    · rename_i m hm
      cases h; cases hex
      have e := vr_leaf hd; subst e
      refine Post.same hr (VR.leaf _) ?_
      unfold Builtin.copy_
      simp only [h0, List.getElem?_toArray, List.getElem?_cons_zero, List.getElem?_cons_succ, Sem.run_bind, run_underlying' ok hty, hdd, Result.andThen_ok, lenOf_run hm hs, run_sizeOf' ok he]
      rw [show Nat.min m 0 = 0 by simp, firstCells_zero hm hs]
      rfl
    · cases h
  · cases h

/-- The kind of a map's keys, in the model's words. -/
theorem keyKind_spec {key : TypeId} {kk : KK} (h : keyKind E key = some kk) : ∃ ki, E.ty key = some ki ∧
    ((∃ lk, kk = .one lk ∧ ((lk = .int ∧ ∃ k, ki.desc = .int k) ∨ (lk = .str ∧ ki.desc = .string))) ∨ (∃ ks n el, kk = .row ks ∧ E.flat key = some ks ∧ E.flatKey key = true ∧ ki.desc = .array n el)) := by
  unfold keyKind at h
  split at h
  · rename_i ki hki
    refine ⟨ki, hki, ?_⟩
    split at h
    · rename_i k hk; cases h; exact .inl ⟨_, rfl, .inl ⟨rfl, _, hk⟩⟩
    · rename_i hk; cases h; exact .inl ⟨_, rfl, .inr ⟨rfl, hk⟩⟩
    · rename_i n el hk
      split at h
      · rename_i hf
        cases hfl : E.flat key with
        | none => rw [hfl] at h; cases h
        | some ks => rw [hfl] at h; cases h; exact .inr ⟨ks, n, el, rfl, rfl, hf, hk⟩
      · cases h
    · cases h
  · cases h

/-- One key held against another. -/
theorem sameKey_run {key : TypeId} {kk : KK} (h : keyKind E key = some kk) {k k' : AV} {kv kv' : Value} {r : Bool} (hs : sameKey kk k k' = some r) (hk : VR I ι w k kv) (hk' : VR I ι w k' kv') :
    ((∃ ki, E.ty key = some ki ∧ Instr.sameNow ki.desc kv kv' = some r) ∨ (∃ ki, E.ty key = some ki ∧ (∀ a b, Instr.sameNow ki.desc a b = none) ∧ (Op.equal key kv kv').run P w = .ok r w)) ∧ (r = true → kv = kv') ∧
      (k' = k → kv = kv' → ∀ n, Instr.sameBits (n + 1) kv kv = true) := by
  obtain ⟨ki, hki, hc⟩ := keyKind_spec ok h
  rcases hc with ⟨lk, rfl, hl⟩ | ⟨ks, n, el, rfl, hf, hfk, hd⟩
  · unfold sameKey at hs
    split at hs
    · rename_i lk' a b heq
      cases heq
      have e1 := vr_leaf hk; have e2 := vr_leaf hk'; subst e1 e2
      refine ⟨.inl ⟨ki, hki, ?_⟩, fun hr => by subst hr; exact sameLeaf_true hs, fun h1 h2 n => by subst h2; exact sameBits_leaf hs _⟩
      rcases hl with ⟨rfl, q, hq⟩ | ⟨rfl, hq⟩
      · rw [hq]
        unfold sameLeaf at hs
        split at hs
        · rename_i ka ia kb ib heq
          cases hk' : Nat.beq (kindN ka) (kindN kb) with
          | false => rw [hk'] at hs; cases hs
          | true =>
            rw [hk'] at hs
            have := kind_eq hk'; subst this
            simp only [cond_true, Option.some.injEq, intEq_eq] at hs
            simpa [Instr.sameNow] using hs
        · simp_all
        · simp_all
        · cases hs
      · rw [hq]
        unfold sameLeaf at hs
        split at hs
        · simp_all
        · simp_all
        · simp only [Option.some.injEq] at hs
          simpa [Instr.sameNow] using strEq_beq hs
        · cases hs
    · simp_all
    · cases hs
  · unfold sameKey at hs
    split at hs
    · simp_all
    · rename_i ks' xs ys heq
      cases heq
      obtain ⟨us, vs, rfl, rfl⟩ := sameCells_leafs hs
      obtain ⟨xv, rfl, hx⟩ := vr_agg hk
      obtain ⟨yv, rfl, hy⟩ := vr_agg hk'
      have e1 := vrs_leafs hx; have e2 := vrs_leafs hy; subst e1 e2
      refine ⟨.inr ⟨ki, hki, fun a b => by rw [hd]; rfl, (ok.flat key ks hf xv yv r hs w).2⟩, fun hr => by subst hr; rw [sameCells_true hs], fun h1 h2 n => ?_⟩
      simp only [Value.agg.injEq, List.toArray_inj] at h2
      have h2' : xv = yv := by simpa using h2
      subst h2'
      have := sameBits_cells hs n
      simp only [Instr.sameBits]
      simp only [beq_self_eq_true, Bool.true_and]
      simpa using this
    · cases hs

theorem checkKey_run {key : TypeId} {kk : KK} (h : keyKind E key = some kk) {k : AV} {kv : Value} (hs : (sameKey kk k k).isNone = false) (hk : VR I ι w k kv) (em : Bool) : (Instr.checkKey em 10000 key kv).run P w = .ok () w := by
  cases hs' : sameKey kk k k with
  | none => rw [hs'] at hs; cases hs
  | some r =>
    obtain ⟨ki, hki, hc⟩ := keyKind_spec ok h
    rcases hc with ⟨lk, rfl, hl⟩ | ⟨ks, n, el, rfl, hf, hfk, hd⟩
    · unfold Instr.checkKey
      simp only [Sem.run_bind, run_underlying' ok hki, Result.andThen_ok]
      rcases hl with ⟨rfl, q, hq⟩ | ⟨rfl, hq⟩ <;> rw [hq] <;> cases kv <;> rfl
    · unfold sameKey at hs'
      split at hs'
      · simp_all
      · rename_i _ ys zs zs' h2 h3
        cases h2; cases h3
        obtain ⟨us, vs, hus, _⟩ := sameCells_leafs hs'
        obtain ⟨xv, rfl, hx⟩ := vr_agg hk
        rw [hus] at hx hs'
        have e1 := vrs_leafs hx; subst e1
        exact ok.flatKey key ks hfk hf xv r hs' w em
      · cases hs'

/-- What the model finds. -/
def Finds (P : Program) (w : World) (key : TypeId) (ki : TI) (kv : Value) (ents : List MapEntry) (i : Nat) (q : Option (Nat × Value)) : Prop :=
  Instr.findNow ki.desc kv ents i = some q ∨ ((∀ a b, Instr.sameNow ki.desc a b = none) ∧ (Instr.findAsking key kv ents i).run P w = .ok q w)

/-- A key sought among a map's entries. -/
theorem find_run {key : TypeId} {kk : KK} (h : keyKind E key = some kk) {ki : TI} (hki : E.ty key = some ki) {k : AV} {kv : Value} (hk : VR I ι w k kv) : ∀ (es : List (AV × AV)) (ents : List MapEntry) (i0 : Nat) (r : Option (Nat × AV × AV)), kfind kk k es i0 = some r →
    VRs I ι w (es.map (·.1)) (ents.map (·.key)) →
    (match r with
     | none => Finds P w key ki kv ents i0 none
     | some (i, k', v) => ∃ j e, i = i0 + j ∧ es[j]? = some (k', v) ∧ ents[j]? = some e ∧ e.key = kv ∧ Finds P w key ki kv ents i0 (some (i, e.val))) := by
  intro es
  induction es with
  | nil =>
    intro ents i0 r hf hv
    simp only [kfind, Option.some.injEq] at hf; subst hf
    have : ents = [] := by have := hv.len; simp at this; exact this
    subst this
    exact .inl rfl
  | cons p es ih =>
    intro ents i0 r hf hv
    obtain ⟨k', v⟩ := p
    cases ents with
    | nil => have := hv.len; simp at this
    | cons e ents =>
      simp only [List.map_cons] at hv
      obtain ⟨u, us, he, h1, h2⟩ := hv.uncons
      simp only [List.cons.injEq] at he
      obtain ⟨rfl, rfl⟩ := he
      unfold kfind at hf
      split at hf
      · rename_i hs
        cases hf
        obtain ⟨hrun, heq, _⟩ := sameKey_run ok h hs hk h1
        refine ⟨0, e, rfl, rfl, rfl, (heq rfl).symm, ?_⟩
        rcases hrun with ⟨ki', hki', hn⟩ | ⟨ki', hki', hn, hq⟩
        · rw [hki] at hki'; cases hki'
          exact .inl (by simp [Instr.findNow, hn])
        · rw [hki] at hki'; cases hki'
          exact .inr ⟨hn, by simp only [Instr.findAsking, Sem.run_bind, hq, Result.andThen_ok, if_true, Sem.run_pure]⟩
      · rename_i hs
        obtain ⟨hrun, _, _⟩ := sameKey_run ok h hs hk h1
        have hi := ih ents (i0 + 1) r hf h2
        have step : ∀ q, Finds P w key ki kv ents (i0 + 1) q → Finds P w key ki kv (e :: ents) i0 q := by
          intro q hq
          rcases hrun with ⟨ki', hki', hn⟩ | ⟨ki', hki', hn, hq'⟩
          · rw [hki] at hki'; cases hki'
            rcases hq with hq | ⟨hq1, _⟩
            · exact .inl (by simp [Instr.findNow, hn, hq])
            · rw [hq1] at hn; cases hn
          · rw [hki] at hki'; cases hki'
            refine .inr ⟨hn, ?_⟩
            simp only [Instr.findAsking, Sem.run_bind, hq', Result.andThen_ok, Bool.false_eq_true, if_false]
            rcases hq with hq | ⟨_, hq⟩
            · cases ents with
              | nil => simp only [Instr.findNow, Option.some.injEq] at hq; subst hq; rfl
              | cons e' ents' => simp [Instr.findNow, hn] at hq
            · exact hq
        cases r with
        | none => exact step none hi
        | some r =>
          obtain ⟨i, k', v⟩ := r
          obtain ⟨j, e', a, b, c, d, f⟩ := hi
          exact ⟨j + 1, e', by omega, by simpa using b, by simpa using c, d, step _ f⟩
      · cases hf

omit ok in
theorem finds_run {key : TypeId} {ki : TI} (hd : P.underlying key = some ki.desc) {kv : Value} {ents : List MapEntry} {q : Option (Nat × Value)} (h : Finds P w key ki kv ents 0 q) : (Instr.findKey key kv ents).run P w = .ok q w := by
  unfold Instr.findKey underlying
  simp only [Sem.run_bind, run_program, Result.andThen_ok, hd, Sem.run_pure]
  rcases h with h | ⟨h1, h2⟩
  · rw [h]; rfl
  · cases ents with
    | nil => simp only [Instr.findAsking, Sem.run_pure, Result.ok.injEq, and_true] at h2; subst h2; rfl
    | cons e ents =>
      have : Instr.findNow ki.desc kv (e :: ents) 0 = none := by simp [Instr.findNow, h1]
      rw [this]; exact h2

theorem lookupA_run (hr : RelH I ι H w) {t : TypeId} {m k : AV} {okk : Bool} {mv kv : Value} (hm : VR I ι w m mv) (hk : VR I ι w k kv) {A : Action} (h : lookupA E t m k okk = some A) {rid : Option Nat} {v : AV} {H' : Heap} (hex : A.exec rid H = some (v, H')) :
    Post I ι H w rid H' v fun w' vm => (Instr.lookup t mv kv okk).run P w = .ok vm w' := by
  unfold lookupA at h
  split at h
  · rename_i ti hty
    split at h
    · rename_i key el b hd
      split at h
      · rename_i kk eti hkk hel
        split at h
        · cases h
        rename_i hself
        cases h
        simp only [Action.exec] at hex
        split at hex
        · rename_i es hg
          cases hm with
          | map hb =>
            rename_i kb o e
            have hbr := hr.blk b _ hb
            rw [hg] at hbr
            obtain ⟨ents, clock, h1, h2, h3, h4, h5⟩ := hbr
            obtain ⟨ki, hki, _⟩ := keyKind_spec ok hkk
            have hgo : (getObj kb).run P w = .ok (.map ents clock) w := run_getObj_map' h1
            have hck := checkKey_run ok hkk (by rw [hself]; rfl) hk (w := w) ents.isEmpty
            have fin : ∀ q, Finds P w key ki kv ents.toList 0 q → ∀ zv bo, (∀ i u, q = some (i, u) → zv = u ∧ bo = true) → (q = none → (zeroValue el).run P w = .ok zv w ∧ bo = false) →
                (Instr.lookup t (.map (some kb)) kv okk).run P w = .ok (if okk then .tuple #[zv, .bool bo] else zv) w := by
              intro q hq zv bo h4 h5
              unfold Instr.lookup
              simp only [Sem.run_bind, run_underlying' ok hty, hd, Result.andThen_ok, hgo, Sem.run_pure, hck, finds_run (ok.desc key ki hki) hq]
              cases q with
              | none => obtain ⟨a, rfl⟩ := h5 rfl; simp only [Sem.run_bind, a, Result.andThen_ok, Sem.run_pure]
              | some p => obtain ⟨i, u⟩ := p; obtain ⟨rfl, rfl⟩ := h4 i u rfl; rfl
            split at hex
            · rename_i i k' u hf
              cases hex
              obtain ⟨j, e', _, hes, hen, hke, hq⟩ := find_run ok hkk hki hk es ents.toList 0 _ hf h2
              have hu : VR I ι w u e'.val := h3.at_ j u e'.val (by simp [hes]) (by simp [hen])
              refine Post.same hr ?_ (fin _ hq e'.val true (fun i u h => by cases h; exact ⟨rfl, rfl⟩) (by simp))
              cases okk with
              | true => exact VR.tup' ((VRs.nil.cons (VR.leaf (.bool true))).cons hu)
              | false => exact hu
            · rename_i hf
              have hq := find_run ok hkk hki hk es ents.toList 0 _ hf h2
              split at hex
              · rename_i z hz
                cases hex
                obtain ⟨zv, hz1, hz2, hz3⟩ := run_zeroValue' (P := P) (w := w) ok hel
                have hzv : VR I ι w z zv := by
                  rw [ok.za el eti hel] at hz
                  unfold ofCells at hz
                  cases hb : eti.agg with
                  | true => rw [hb] at hz hz3; simp only [if_true, Option.some.injEq] at hz hz3; subst hz hz3; exact VR.agg' (VRs.leafs _)
                  | false =>
                    rw [hb] at hz hz3; simp only [Bool.false_eq_true, if_false] at hz hz3
                    split at hz
                    · rename_i c hc
                      cases hz
                      cases hzz : eti.zero with
                      | nil => rw [hzz] at hc; simp at hc
                      | cons a as_ => rw [hzz] at hc hz3; simp at hc hz3; rw [← hc.1, hz3]; exact VR.leaf _
                    · cases hz
                refine Post.same hr ?_ (fin _ hq zv false (by simp) (fun _ => ⟨hz1, rfl⟩))
                cases okk with
                | true => exact VR.tup' ((VRs.nil.cons (VR.leaf (.bool false))).cons hzv)
                | false => exact hzv
              · cases hex
            · cases hex
        · cases hex
      · cases h
    · cases h
  · cases h

theorem mapUpdateA_run (hr : RelH I ι H w) {t : TypeId} {m k x : AV} {mv kv xv : Value} (hm : VR I ι w m mv) (hk : VR I ι w k kv) (hx : VR I ι w x xv) {A : Action} (h : mapUpdateA E t m k x = some A) {rid : Option Nat} {v : AV} {H' : Heap} (hex : A.exec rid H = some (v, H')) :
    Post I ι H w rid H' v fun w' vm => (Instr.mapUpdate t mv kv xv).run P w = .ok () w' ∧ vm = undef := by
  unfold mapUpdateA at h
  split at h
  · rename_i ti hty
    split at h
    · rename_i key el b hd
      split at h
      · rename_i kk hkk
        split at h
        · cases h
        rename_i hself
        cases h
        simp only [Action.exec] at hex
        split at hex
        · rename_i es hg
          cases hm with
          | map hb =>
            rename_i kb o e
            have hbr := hr.blk b _ hb
            rw [hg] at hbr
            obtain ⟨ents, clock, h1, h2, h3, h4, h5⟩ := hbr
            obtain ⟨ki, hki, _⟩ := keyKind_spec ok hkk
            have hgo : (getObj kb).run P w = .ok (.map ents clock) w := run_getObj_map' h1
            have hck := checkKey_run ok hkk (by rw [hself]; rfl) hk (w := w) false
            have hlt : kb < w.heap.size := (Array.getElem?_eq_some_iff.1 h1).1
            have upd : ∀ (es' : List (AV × AV)) (ents' : Array MapEntry) (clock' : Nat), VRs I ι w (es'.map (·.1)) (ents'.toList.map (·.key)) → VRs I ι w (es'.map (·.2)) (ents'.toList.map (·.val)) → ents'.toList.map (·.born) = List.range es'.length → clock' = es'.length →
                RelH I ι (H.set b (.map es')) { w with heap := w.heap.setIfInBounds kb (.map ents' clock') } ∧ Ext I ι H w I ι (H.set b (.map es')) { w with heap := w.heap.setIfInBounds kb (.map ents' clock') } := by
              intro es' ents' clock' v1 v2 v3 v4
              have hne : ∀ b', b' ≠ kb → (w.heap.setIfInBounds kb (.map ents' clock'))[b']? = w.heap[b']? := fun b' hb' => by simp [Ne.symm hb']
              have hsame : (w.heap.setIfInBounds kb (.map ents' clock'))[kb]? = some (.map ents' clock') := by simp [hlt]
              obtain ⟨a1, a2, _⟩ := updBlk (w' := { w with heap := w.heap.setIfInBounds kb (.map ents' clock') }) hr hb (.map es') rfl rfl rfl rfl (by simp)
                (fun b' c e fr hbb => ⟨c, by rw [hne b' (fun e => by subst e; rw [h1] at hbb; cases hbb)]; exact hbb, rfl, fun _ _ => rfl⟩)
                (fun b' o' hbb _ hn => by rw [hne b' (fun e => hn (by subst e; rw [hg]; rfl))]; exact hbb)
                (fun b' l hbb => ⟨l, by rw [hne b' (fun e => by subst e; rw [h1] at hbb; cases hbb)]; exact hbb⟩)
                (fun b' o' hin => by rw [hg]; exact hin)
                (fun hvr => ⟨ents', clock', hsame, ⟨v1.len, fun i x v a b => hvr _ _ (v1.at_ i x v a b)⟩, ⟨v2.len, fun i x v a b => hvr _ _ (v2.at_ i x v a b)⟩, v3, v4⟩)
              exact ⟨a1, a2⟩
            split at hex
            · rename_i i k' u hf
              cases hex
              obtain ⟨j, e', hi, hes, hen, hke, hq⟩ := find_run ok hkk hki hk es ents.toList 0 _ hf h2
              have hij : i = j := by omega
              subst hij
              have hkv : VR I ι w k' kv := by rw [← hke]; exact h2.at_ i k' e'.key (by simp [hes]) (by simp [hen])
              have hen' : ents[i]? = some e' := by simpa using hen
              have hbits : Instr.sameBits 10000 e'.key kv = true := by
                rw [hke]
                cases hs' : sameKey kk k k with
                | none => rw [hs'] at hself; simp at hself
                | some r => exact (sameKey_run ok hkk hs' hk hk).2.2 rfl rfl 9999
              obtain ⟨a1, a2⟩ := upd (es.set i (k', x)) (ents.modify i fun e => { e with key := kv, val := xv }) clock (by
                have e1 : (es.set i (k', x)).map (·.1) = (es.map (·.1)).set i k' := by rw [List.map_set]
                have e2 : ((ents.modify i fun e => { e with key := kv, val := xv }).toList.map (·.key)) = (ents.toList.map (·.key)).set i kv := by
                  apply List.ext_getElem?
                  intro q
                  simp only [List.getElem?_map, Array.getElem?_toList, Array.getElem?_modify, List.getElem?_set, List.length_map, Array.length_toList]
                  by_cases hq : i = q
                  · subst hq; simp [hen', (Array.getElem?_eq_some_iff.1 hen').1]
                  · simp [hq]
                rw [e1, e2]; exact h2.set hkv i) (by
                have e1 : (es.set i (k', x)).map (·.2) = (es.map (·.2)).set i x := by rw [List.map_set]
                have e2 : ((ents.modify i fun e => { e with key := kv, val := xv }).toList.map (·.val)) = (ents.toList.map (·.val)).set i xv := by
                  apply List.ext_getElem?
                  intro q
                  simp only [List.getElem?_map, Array.getElem?_toList, Array.getElem?_modify, List.getElem?_set, List.length_map, Array.length_toList]
                  by_cases hq : i = q
                  · subst hq; simp [hen', (Array.getElem?_eq_some_iff.1 hen').1]
                  · simp [hq]
                rw [e1, e2]; exact h3.set hx i) (by
                rw [List.length_set, ← h4]
                apply List.ext_getElem?
                intro q
                simp only [List.getElem?_map, Array.getElem?_toList, Array.getElem?_modify]
                by_cases hq : i = q
                · subst hq; simp [hen']
                · simp [hq]) (by rw [List.length_set]; exact h5)
              refine ⟨I, ι, _, _, a1, VR.undef, a2, fun _ _ _ => rfl, ?_, rfl⟩
              unfold Instr.mapUpdate
              simp only [Sem.run_bind, run_underlying' ok hty, hd, Result.andThen_ok, hgo, hck, finds_run (ok.desc key ki hki) hq]
              simp only [hen', Option.map_some, Option.getD_some, Instr.keyThatStays, hbits, if_true, Sem.run_pure, Result.andThen_ok]
              exact run_setObj_map' _ h1
            · rename_i hf
              cases hex
              have hq := find_run ok hkk hki hk es ents.toList 0 _ hf h2
              obtain ⟨a1, a2⟩ := upd (es ++ [(k, x)]) (ents.push { key := kv, val := xv, born := clock }) (clock + 1) (by
                simp only [List.map_append, List.map_cons, List.map_nil, Array.toList_push]
                exact h2.append (VRs.nil.cons hk)) (by
                simp only [List.map_append, List.map_cons, List.map_nil, Array.toList_push]
                exact h3.append (VRs.nil.cons hx)) (by
                simp only [Array.toList_push, List.map_append, List.map_cons, List.map_nil, List.length_append, List.length_cons, List.length_nil]
                rw [h4, h5, List.range_succ]) (by simp [h5])
              refine ⟨I, ι, _, _, a1, VR.undef, a2, fun _ _ _ => rfl, ?_, rfl⟩
              unfold Instr.mapUpdate
              simp only [Sem.run_bind, run_underlying' ok hty, hd, Result.andThen_ok, hgo, hck, finds_run (ok.desc key ki hki) hq]
              exact run_setObj_map' _ h1
            · cases hex
        · cases hex
      · cases h
    · cases h
  · cases h
end
end Go.Ab
